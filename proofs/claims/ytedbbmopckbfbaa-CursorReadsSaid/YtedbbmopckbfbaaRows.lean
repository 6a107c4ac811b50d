/-
  No cell of these rows narrows 'for every input' (looked for: loops, veiled, ifaces, maps, wideKeys, modest, calm, conditions, laid).
  DERIVED. THE GIVEN ROWS OF THIS SEAT. 18 by the template 'for every input the law returns true; each argument reads behind the call as it read before'; 0 by the template 'total and deterministic' (their statements: YtedbbmopckbfbaaTotals.lean).
  GIVEN WITH THE SEED: the statements are not yours to turn. If you find one false, say at which input.
  Laid BY PROGRAM, IN A SANDBOX (cutbox-rows.mjs): the forced cells as the released guide's own fill.sh prints them over the translation 4e29d94a1c593e07… (all of the seat's roots in one cut). By AI agents, Wed Nov 11 2026. No macro, syntax, notation, axiom, sorry.
-/
import Derived.Test.YtedbbmopckbfbaaChecked
import GoSem.Claim
import GoSem.ClaimJoined
import GoSem.ClaimMapViews
import Derived.JoinedTies
import Derived.KernelRfl
namespace Go.Proofs.Ytedbbmopckbfbaa
/- THE CELL 'sum', in the pinned program and in every row, IS THE sha256 OF THE DUMP (.gsa) THAT YtedbbmopckbfbaaProg.lean LOADS. Nothing in Lean hashes anything: it is a label: what it is worth is what the hold of that sum in a sandbox is worth. -/
noncomputable def Try.pinned : Pinned := { name := "ytedbbmopckbfbaa", sum := "4e29d94a1c593e07404d32c1e553cca0a28ec585eebb484605fa3a2b35b6ec6d", checked := Try.checked }
namespace Rows
def none {H : Type} : Left H := { results := [], args := [] }

/-- 'taffraillaw02.LebOne': WHATEVER THE INPUT: true; the input reads as it did. -/
def lebOneSpec : ChangeSpec := { name := "lebOne", fn := fun _ => fun
  | [d1, d2] => { results := [.lit (.bool true)], args := [d1, d2] }
  | _ => none }
def lebOneRow : OpenClaim := { program := "ytedbbmopckbfbaa", sum := "4e29d94a1c593e07404d32c1e553cca0a28ec585eebb484605fa3a2b35b6ec6d", func := "taffrail/taffraillaw02.LebOne", spec := "lebOne", apart := false }
def LebOneSaid : Prop := lebOneRow.holds Try.pinned (OpenSpec.ofChange lebOneSpec)

/-- ITS FALSE NEIGHBOUR: 'it returns false'. Refute it at one input. -/
def lebOneWrong : ChangeSpec := { name := "lebOne", fn := fun _ => fun
  | [d1, d2] => { results := [.lit (.bool false)], args := [d1, d2] }
  | _ => none }
def LebOneWrongFalsely : Prop := lebOneRow.holds Try.pinned (OpenSpec.ofChange lebOneWrong)

/-- 'taffraillaw02.LebFolds': WHATEVER THE INPUT: true; the input reads as it did. -/
def lebFoldsSpec : ChangeSpec := { name := "lebFolds", fn := fun _ => fun
  | [d1, d2] => { results := [.lit (.bool true)], args := [d1, d2] }
  | _ => none }
def lebFoldsRow : OpenClaim := { program := "ytedbbmopckbfbaa", sum := "4e29d94a1c593e07404d32c1e553cca0a28ec585eebb484605fa3a2b35b6ec6d", func := "taffrail/taffraillaw02.LebFolds", spec := "lebFolds", apart := false }
def LebFoldsSaid : Prop := lebFoldsRow.holds Try.pinned (OpenSpec.ofChange lebFoldsSpec)

/-- ITS FALSE NEIGHBOUR: 'it returns false'. Refute it at one input. -/
def lebFoldsWrong : ChangeSpec := { name := "lebFolds", fn := fun _ => fun
  | [d1, d2] => { results := [.lit (.bool false)], args := [d1, d2] }
  | _ => none }
def LebFoldsWrongFalsely : Prop := lebFoldsRow.holds Try.pinned (OpenSpec.ofChange lebFoldsWrong)

/-- 'taffraillaw02.LebRuns': WHATEVER THE INPUT: true; the input reads as it did. -/
def lebRunsSpec : ChangeSpec := { name := "lebRuns", fn := fun _ => fun
  | [d] => { results := [.lit (.bool true)], args := [d] }
  | _ => none }
def lebRunsRow : OpenClaim := { program := "ytedbbmopckbfbaa", sum := "4e29d94a1c593e07404d32c1e553cca0a28ec585eebb484605fa3a2b35b6ec6d", func := "taffrail/taffraillaw02.LebRuns", spec := "lebRuns", apart := false }
def LebRunsSaid : Prop := lebRunsRow.holds Try.pinned (OpenSpec.ofChange lebRunsSpec)

/-- ITS FALSE NEIGHBOUR: 'it returns false'. Refute it at one input. -/
def lebRunsWrong : ChangeSpec := { name := "lebRuns", fn := fun _ => fun
  | [d] => { results := [.lit (.bool false)], args := [d] }
  | _ => none }
def LebRunsWrongFalsely : Prop := lebRunsRow.holds Try.pinned (OpenSpec.ofChange lebRunsWrong)

/-- 'taffraillaw04.SeptGets': WHATEVER THE INPUT: true; the input reads as it did. -/
def septGetsSpec : ChangeSpec := { name := "septGets", fn := fun _ => fun
  | [d1, d2, d3] => { results := [.lit (.bool true)], args := [d1, d2, d3] }
  | _ => none }
def septGetsRow : OpenClaim := { program := "ytedbbmopckbfbaa", sum := "4e29d94a1c593e07404d32c1e553cca0a28ec585eebb484605fa3a2b35b6ec6d", func := "taffrail/taffraillaw04.SeptGets", spec := "septGets", apart := false }
def SeptGetsSaid : Prop := septGetsRow.holds Try.pinned (OpenSpec.ofChange septGetsSpec)

/-- ITS FALSE NEIGHBOUR: 'it returns false'. Refute it at one input. -/
def septGetsWrong : ChangeSpec := { name := "septGets", fn := fun _ => fun
  | [d1, d2, d3] => { results := [.lit (.bool false)], args := [d1, d2, d3] }
  | _ => none }
def SeptGetsWrongFalsely : Prop := septGetsRow.holds Try.pinned (OpenSpec.ofChange septGetsWrong)

/-- 'taffraillaw04.SeptBack': WHATEVER THE INPUT: true; the input reads as it did. -/
def septBackSpec : ChangeSpec := { name := "septBack", fn := fun _ => fun
  | [d1, d2, d3] => { results := [.lit (.bool true)], args := [d1, d2, d3] }
  | _ => none }
def septBackRow : OpenClaim := { program := "ytedbbmopckbfbaa", sum := "4e29d94a1c593e07404d32c1e553cca0a28ec585eebb484605fa3a2b35b6ec6d", func := "taffrail/taffraillaw04.SeptBack", spec := "septBack", apart := false }
def SeptBackSaid : Prop := septBackRow.holds Try.pinned (OpenSpec.ofChange septBackSpec)

/-- ITS FALSE NEIGHBOUR: 'it returns false'. Refute it at one input. -/
def septBackWrong : ChangeSpec := { name := "septBack", fn := fun _ => fun
  | [d1, d2, d3] => { results := [.lit (.bool false)], args := [d1, d2, d3] }
  | _ => none }
def SeptBackWrongFalsely : Prop := septBackRow.holds Try.pinned (OpenSpec.ofChange septBackWrong)

/-- 'taffraillaw04.SeptNil': WHATEVER THE INPUT: true; the input reads as it did. -/
def septNilSpec : ChangeSpec := { name := "septNil", fn := fun _ => fun
  | [d1, d2] => { results := [.lit (.bool true)], args := [d1, d2] }
  | _ => none }
def septNilRow : OpenClaim := { program := "ytedbbmopckbfbaa", sum := "4e29d94a1c593e07404d32c1e553cca0a28ec585eebb484605fa3a2b35b6ec6d", func := "taffrail/taffraillaw04.SeptNil", spec := "septNil", apart := false }
def SeptNilSaid : Prop := septNilRow.holds Try.pinned (OpenSpec.ofChange septNilSpec)

/-- ITS FALSE NEIGHBOUR: 'it returns false'. Refute it at one input. -/
def septNilWrong : ChangeSpec := { name := "septNil", fn := fun _ => fun
  | [d1, d2] => { results := [.lit (.bool false)], args := [d1, d2] }
  | _ => none }
def SeptNilWrongFalsely : Prop := septNilRow.holds Try.pinned (OpenSpec.ofChange septNilWrong)

/-- 'taffraillaw04.SeptSums': WHATEVER THE INPUT: true; the input reads as it did. -/
def septSumsSpec : ChangeSpec := { name := "septSums", fn := fun _ => fun
  | [d] => { results := [.lit (.bool true)], args := [d] }
  | _ => none }
def septSumsRow : OpenClaim := { program := "ytedbbmopckbfbaa", sum := "4e29d94a1c593e07404d32c1e553cca0a28ec585eebb484605fa3a2b35b6ec6d", func := "taffrail/taffraillaw04.SeptSums", spec := "septSums", apart := false }
def SeptSumsSaid : Prop := septSumsRow.holds Try.pinned (OpenSpec.ofChange septSumsSpec)

/-- ITS FALSE NEIGHBOUR: 'it returns false'. Refute it at one input. -/
def septSumsWrong : ChangeSpec := { name := "septSums", fn := fun _ => fun
  | [d] => { results := [.lit (.bool false)], args := [d] }
  | _ => none }
def SeptSumsWrongFalsely : Prop := septSumsRow.holds Try.pinned (OpenSpec.ofChange septSumsWrong)

/-- 'taffraillaw02.LebPuts': WHATEVER THE INPUT: true; the input reads as it did. -/
def lebPutsSpec : ChangeSpec := { name := "lebPuts", fn := fun _ => fun
  | [d] => { results := [.lit (.bool true)], args := [d] }
  | _ => none }
def lebPutsRow : OpenClaim := { program := "ytedbbmopckbfbaa", sum := "4e29d94a1c593e07404d32c1e553cca0a28ec585eebb484605fa3a2b35b6ec6d", func := "taffrail/taffraillaw02.LebPuts", spec := "lebPuts", apart := false }
def LebPutsSaid : Prop := lebPutsRow.holds Try.pinned (OpenSpec.ofChange lebPutsSpec)

/-- ITS FALSE NEIGHBOUR: 'it returns false'. Refute it at one input. -/
def lebPutsWrong : ChangeSpec := { name := "lebPuts", fn := fun _ => fun
  | [d] => { results := [.lit (.bool false)], args := [d] }
  | _ => none }
def LebPutsWrongFalsely : Prop := lebPutsRow.holds Try.pinned (OpenSpec.ofChange lebPutsWrong)

/-- 'taffraillaw02.LebGets': WHATEVER THE INPUT: true; the input reads as it did. -/
def lebGetsSpec : ChangeSpec := { name := "lebGets", fn := fun _ => fun
  | [d1, d2, d3] => { results := [.lit (.bool true)], args := [d1, d2, d3] }
  | _ => none }
def lebGetsRow : OpenClaim := { program := "ytedbbmopckbfbaa", sum := "4e29d94a1c593e07404d32c1e553cca0a28ec585eebb484605fa3a2b35b6ec6d", func := "taffrail/taffraillaw02.LebGets", spec := "lebGets", apart := false }
def LebGetsSaid : Prop := lebGetsRow.holds Try.pinned (OpenSpec.ofChange lebGetsSpec)

/-- ITS FALSE NEIGHBOUR: 'it returns false'. Refute it at one input. -/
def lebGetsWrong : ChangeSpec := { name := "lebGets", fn := fun _ => fun
  | [d1, d2, d3] => { results := [.lit (.bool false)], args := [d1, d2, d3] }
  | _ => none }
def LebGetsWrongFalsely : Prop := lebGetsRow.holds Try.pinned (OpenSpec.ofChange lebGetsWrong)

/-- 'taffraillaw04.SeptPuts': WHATEVER THE INPUT: true; the input reads as it did. -/
def septPutsSpec : ChangeSpec := { name := "septPuts", fn := fun _ => fun
  | [d1, d2] => { results := [.lit (.bool true)], args := [d1, d2] }
  | _ => none }
def septPutsRow : OpenClaim := { program := "ytedbbmopckbfbaa", sum := "4e29d94a1c593e07404d32c1e553cca0a28ec585eebb484605fa3a2b35b6ec6d", func := "taffrail/taffraillaw04.SeptPuts", spec := "septPuts", apart := false }
def SeptPutsSaid : Prop := septPutsRow.holds Try.pinned (OpenSpec.ofChange septPutsSpec)

/-- ITS FALSE NEIGHBOUR: 'it returns false'. Refute it at one input. -/
def septPutsWrong : ChangeSpec := { name := "septPuts", fn := fun _ => fun
  | [d1, d2] => { results := [.lit (.bool false)], args := [d1, d2] }
  | _ => none }
def SeptPutsWrongFalsely : Prop := septPutsRow.holds Try.pinned (OpenSpec.ofChange septPutsWrong)

/-- 'taffraillaw04.SeptOne': WHATEVER THE INPUT: true; the input reads as it did. -/
def septOneSpec : ChangeSpec := { name := "septOne", fn := fun _ => fun
  | [d1, d2, d3] => { results := [.lit (.bool true)], args := [d1, d2, d3] }
  | _ => none }
def septOneRow : OpenClaim := { program := "ytedbbmopckbfbaa", sum := "4e29d94a1c593e07404d32c1e553cca0a28ec585eebb484605fa3a2b35b6ec6d", func := "taffrail/taffraillaw04.SeptOne", spec := "septOne", apart := false }
def SeptOneSaid : Prop := septOneRow.holds Try.pinned (OpenSpec.ofChange septOneSpec)

/-- ITS FALSE NEIGHBOUR: 'it returns false'. Refute it at one input. -/
def septOneWrong : ChangeSpec := { name := "septOne", fn := fun _ => fun
  | [d1, d2, d3] => { results := [.lit (.bool false)], args := [d1, d2, d3] }
  | _ => none }
def SeptOneWrongFalsely : Prop := septOneRow.holds Try.pinned (OpenSpec.ofChange septOneWrong)

/-- 'taffraillaw02.LebBack': WHATEVER THE INPUT: true; the input reads as it did. -/
def lebBackSpec : ChangeSpec := { name := "lebBack", fn := fun _ => fun
  | [d1, d2, d3] => { results := [.lit (.bool true)], args := [d1, d2, d3] }
  | _ => none }
def lebBackRow : OpenClaim := { program := "ytedbbmopckbfbaa", sum := "4e29d94a1c593e07404d32c1e553cca0a28ec585eebb484605fa3a2b35b6ec6d", func := "taffrail/taffraillaw02.LebBack", spec := "lebBack", apart := false }
def LebBackSaid : Prop := lebBackRow.holds Try.pinned (OpenSpec.ofChange lebBackSpec)

/-- ITS FALSE NEIGHBOUR: 'it returns false'. Refute it at one input. -/
def lebBackWrong : ChangeSpec := { name := "lebBack", fn := fun _ => fun
  | [d1, d2, d3] => { results := [.lit (.bool false)], args := [d1, d2, d3] }
  | _ => none }
def LebBackWrongFalsely : Prop := lebBackRow.holds Try.pinned (OpenSpec.ofChange lebBackWrong)

/-- 'taffraillaw02.LebNil': WHATEVER THE INPUT: true; the input reads as it did. -/
def lebNilSpec : ChangeSpec := { name := "lebNil", fn := fun _ => fun
  | [d1, d2] => { results := [.lit (.bool true)], args := [d1, d2] }
  | _ => none }
def lebNilRow : OpenClaim := { program := "ytedbbmopckbfbaa", sum := "4e29d94a1c593e07404d32c1e553cca0a28ec585eebb484605fa3a2b35b6ec6d", func := "taffrail/taffraillaw02.LebNil", spec := "lebNil", apart := false }
def LebNilSaid : Prop := lebNilRow.holds Try.pinned (OpenSpec.ofChange lebNilSpec)

/-- ITS FALSE NEIGHBOUR: 'it returns false'. Refute it at one input. -/
def lebNilWrong : ChangeSpec := { name := "lebNil", fn := fun _ => fun
  | [d1, d2] => { results := [.lit (.bool false)], args := [d1, d2] }
  | _ => none }
def LebNilWrongFalsely : Prop := lebNilRow.holds Try.pinned (OpenSpec.ofChange lebNilWrong)

/-- 'taffraillaw01.CursorParts': WHATEVER THE INPUT: true; the input reads as it did. -/
def cursorPartsSpec : ChangeSpec := { name := "cursorParts", fn := fun _ => fun
  | [d1, d2] => { results := [.lit (.bool true)], args := [d1, d2] }
  | _ => none }
def cursorPartsRow : OpenClaim := { program := "ytedbbmopckbfbaa", sum := "4e29d94a1c593e07404d32c1e553cca0a28ec585eebb484605fa3a2b35b6ec6d", func := "taffrail/taffraillaw01.CursorParts", spec := "cursorParts", inPlace := ["internal/bytealg.IndexByteString", "internal/bytealg.IndexString"], named := ["internal/bytealg.MaxLen"], apart := false }
def CursorPartsSaid : Prop := cursorPartsRow.holds Try.pinned (OpenSpec.ofChange cursorPartsSpec)

/-- ITS FALSE NEIGHBOUR: 'it returns false'. Refute it at one input. -/
def cursorPartsWrong : ChangeSpec := { name := "cursorParts", fn := fun _ => fun
  | [d1, d2] => { results := [.lit (.bool false)], args := [d1, d2] }
  | _ => none }
def CursorPartsWrongFalsely : Prop := cursorPartsRow.holds Try.pinned (OpenSpec.ofChange cursorPartsWrong)

/-- 'taffraillaw01.CursorWrites': WHATEVER THE INPUT: true; the input reads as it did. -/
def cursorWritesSpec : ChangeSpec := { name := "cursorWrites", fn := fun _ => fun
  | [d1, d2] => { results := [.lit (.bool true)], args := [d1, d2] }
  | _ => none }
def cursorWritesRow : OpenClaim := { program := "ytedbbmopckbfbaa", sum := "4e29d94a1c593e07404d32c1e553cca0a28ec585eebb484605fa3a2b35b6ec6d", func := "taffrail/taffraillaw01.CursorWrites", spec := "cursorWrites", inPlace := ["internal/bytealg.IndexByteString", "internal/bytealg.IndexString"], named := ["internal/bytealg.MaxLen"], apart := false }
def CursorWritesSaid : Prop := cursorWritesRow.holds Try.pinned (OpenSpec.ofChange cursorWritesSpec)

/-- ITS FALSE NEIGHBOUR: 'it returns false'. Refute it at one input. -/
def cursorWritesWrong : ChangeSpec := { name := "cursorWrites", fn := fun _ => fun
  | [d1, d2] => { results := [.lit (.bool false)], args := [d1, d2] }
  | _ => none }
def CursorWritesWrongFalsely : Prop := cursorWritesRow.holds Try.pinned (OpenSpec.ofChange cursorWritesWrong)

/-- 'taffraillaw01.CursorReads': WHATEVER THE INPUT: true; the input reads as it did. -/
def cursorReadsSpec : ChangeSpec := { name := "cursorReads", fn := fun _ => fun
  | [d1, d2] => { results := [.lit (.bool true)], args := [d1, d2] }
  | _ => none }
def cursorReadsRow : OpenClaim := { program := "ytedbbmopckbfbaa", sum := "4e29d94a1c593e07404d32c1e553cca0a28ec585eebb484605fa3a2b35b6ec6d", func := "taffrail/taffraillaw01.CursorReads", spec := "cursorReads", inPlace := ["internal/bytealg.IndexByteString", "internal/bytealg.IndexString"], named := ["internal/bytealg.MaxLen"], apart := false }
def CursorReadsSaid : Prop := cursorReadsRow.holds Try.pinned (OpenSpec.ofChange cursorReadsSpec)

/-- ITS FALSE NEIGHBOUR: 'it returns false'. Refute it at one input. -/
def cursorReadsWrong : ChangeSpec := { name := "cursorReads", fn := fun _ => fun
  | [d1, d2] => { results := [.lit (.bool false)], args := [d1, d2] }
  | _ => none }
def CursorReadsWrongFalsely : Prop := cursorReadsRow.holds Try.pinned (OpenSpec.ofChange cursorReadsWrong)

/-- 'taffraillaw01.CursorFinds': WHATEVER THE INPUT: true; the input reads as it did. -/
def cursorFindsSpec : ChangeSpec := { name := "cursorFinds", fn := fun _ => fun
  | [d1, d2, d3] => { results := [.lit (.bool true)], args := [d1, d2, d3] }
  | _ => none }
def cursorFindsRow : OpenClaim := { program := "ytedbbmopckbfbaa", sum := "4e29d94a1c593e07404d32c1e553cca0a28ec585eebb484605fa3a2b35b6ec6d", func := "taffrail/taffraillaw01.CursorFinds", spec := "cursorFinds", inPlace := ["internal/bytealg.IndexByteString", "internal/bytealg.IndexString"], named := ["internal/bytealg.MaxLen"], apart := false }
def CursorFindsSaid : Prop := cursorFindsRow.holds Try.pinned (OpenSpec.ofChange cursorFindsSpec)

/-- ITS FALSE NEIGHBOUR: 'it returns false'. Refute it at one input. -/
def cursorFindsWrong : ChangeSpec := { name := "cursorFinds", fn := fun _ => fun
  | [d1, d2, d3] => { results := [.lit (.bool false)], args := [d1, d2, d3] }
  | _ => none }
def CursorFindsWrongFalsely : Prop := cursorFindsRow.holds Try.pinned (OpenSpec.ofChange cursorFindsWrong)

/-- 'taffraillaw01.CursorNil': WHATEVER THE INPUT: true; the input reads as it did. -/
def cursorNilSpec : ChangeSpec := { name := "cursorNil", fn := fun _ => fun
  | [d1, d2] => { results := [.lit (.bool true)], args := [d1, d2] }
  | _ => none }
def cursorNilRow : OpenClaim := { program := "ytedbbmopckbfbaa", sum := "4e29d94a1c593e07404d32c1e553cca0a28ec585eebb484605fa3a2b35b6ec6d", func := "taffrail/taffraillaw01.CursorNil", spec := "cursorNil", inPlace := ["internal/bytealg.IndexByteString", "internal/bytealg.IndexString"], named := ["internal/bytealg.MaxLen"], apart := false }
def CursorNilSaid : Prop := cursorNilRow.holds Try.pinned (OpenSpec.ofChange cursorNilSpec)

/-- ITS FALSE NEIGHBOUR: 'it returns false'. Refute it at one input. -/
def cursorNilWrong : ChangeSpec := { name := "cursorNil", fn := fun _ => fun
  | [d1, d2] => { results := [.lit (.bool false)], args := [d1, d2] }
  | _ => none }
def CursorNilWrongFalsely : Prop := cursorNilRow.holds Try.pinned (OpenSpec.ofChange cursorNilWrong)

/- THE SECOND FORM. 'bulk': how many values and letters a reading holds, each counted each time it is reached (what is shared counts as often as it is met; a slice's spare places count too). A statement '..UptoSaid' is the law's where the arguments, and the package variables that the reading takes, are together of bulk at most 1048576: NARROWER than '..Said'. Prove '..Said' where nothing that the law and all that it calls make is longer than what came in: it says more and counts as full. Else prove '..UptoSaid'. A law counts once. -/
mutual
def uptoBulk {H : Type} : DataW H → Nat
  | .lit (.string bytes) => bytes.length + 1
  | .lit _ => 1
  | .nil => 1
  | .ptr d => uptoBulk d + 1
  | .slice elems spare => uptoBulkAll elems + uptoBulkAll spare + 1
  | .agg parts => uptoBulkAll parts + 1
  | .iface _ d => uptoBulk d + 1
  | .map entries => uptoBulkEntries entries + 1
  | .held _ => 1
def uptoBulkAll {H : Type} : List (DataW H) → Nat
  | [] => 0
  | d :: r => uptoBulk d + uptoBulkAll r
def uptoBulkEntries {H : Type} : List (Lit × DataW H) → Nat
  | [] => 0
  | x :: r => uptoBulkEntry x + uptoBulkEntries r
def uptoBulkEntry {H : Type} : Lit × DataW H → Nat
  | (.string bytes, d) => bytes.length + uptoBulk d + 1
  | (_, d) => uptoBulk d + 1
 end
def uptoSmall : (H : Type) → List (DataW H) → Bool := fun _ ds => decide (uptoBulkAll ds ≤ 1048576)
def OpenSpec.upto (s : _root_.Go.ChangeSpec) : _root_.Go.OpenSpec := { _root_.Go.OpenSpec.ofChange s with cond := some uptoSmall }

/-- 'taffraillaw02.LebOne', WHERE WHAT IT READS IS OF BULK AT MOST 1048576: true; the input reads as it did. -/
def lebOneUptoRow : OpenClaim := { program := "ytedbbmopckbfbaa", sum := "4e29d94a1c593e07404d32c1e553cca0a28ec585eebb484605fa3a2b35b6ec6d", func := "taffrail/taffraillaw02.LebOne", spec := "lebOne", apart := false, narrowed := true }
def LebOneUptoSaid : Prop := lebOneUptoRow.holds Try.pinned (OpenSpec.upto lebOneSpec)

/-- 'taffraillaw02.LebFolds', WHERE WHAT IT READS IS OF BULK AT MOST 1048576: true; the input reads as it did. -/
def lebFoldsUptoRow : OpenClaim := { program := "ytedbbmopckbfbaa", sum := "4e29d94a1c593e07404d32c1e553cca0a28ec585eebb484605fa3a2b35b6ec6d", func := "taffrail/taffraillaw02.LebFolds", spec := "lebFolds", apart := false, narrowed := true }
def LebFoldsUptoSaid : Prop := lebFoldsUptoRow.holds Try.pinned (OpenSpec.upto lebFoldsSpec)

/-- 'taffraillaw02.LebRuns', WHERE WHAT IT READS IS OF BULK AT MOST 1048576: true; the input reads as it did. -/
def lebRunsUptoRow : OpenClaim := { program := "ytedbbmopckbfbaa", sum := "4e29d94a1c593e07404d32c1e553cca0a28ec585eebb484605fa3a2b35b6ec6d", func := "taffrail/taffraillaw02.LebRuns", spec := "lebRuns", apart := false, narrowed := true }
def LebRunsUptoSaid : Prop := lebRunsUptoRow.holds Try.pinned (OpenSpec.upto lebRunsSpec)

/-- 'taffraillaw04.SeptGets', WHERE WHAT IT READS IS OF BULK AT MOST 1048576: true; the input reads as it did. -/
def septGetsUptoRow : OpenClaim := { program := "ytedbbmopckbfbaa", sum := "4e29d94a1c593e07404d32c1e553cca0a28ec585eebb484605fa3a2b35b6ec6d", func := "taffrail/taffraillaw04.SeptGets", spec := "septGets", apart := false, narrowed := true }
def SeptGetsUptoSaid : Prop := septGetsUptoRow.holds Try.pinned (OpenSpec.upto septGetsSpec)

/-- 'taffraillaw04.SeptBack', WHERE WHAT IT READS IS OF BULK AT MOST 1048576: true; the input reads as it did. -/
def septBackUptoRow : OpenClaim := { program := "ytedbbmopckbfbaa", sum := "4e29d94a1c593e07404d32c1e553cca0a28ec585eebb484605fa3a2b35b6ec6d", func := "taffrail/taffraillaw04.SeptBack", spec := "septBack", apart := false, narrowed := true }
def SeptBackUptoSaid : Prop := septBackUptoRow.holds Try.pinned (OpenSpec.upto septBackSpec)

/-- 'taffraillaw04.SeptNil', WHERE WHAT IT READS IS OF BULK AT MOST 1048576: true; the input reads as it did. -/
def septNilUptoRow : OpenClaim := { program := "ytedbbmopckbfbaa", sum := "4e29d94a1c593e07404d32c1e553cca0a28ec585eebb484605fa3a2b35b6ec6d", func := "taffrail/taffraillaw04.SeptNil", spec := "septNil", apart := false, narrowed := true }
def SeptNilUptoSaid : Prop := septNilUptoRow.holds Try.pinned (OpenSpec.upto septNilSpec)

/-- 'taffraillaw04.SeptSums', WHERE WHAT IT READS IS OF BULK AT MOST 1048576: true; the input reads as it did. -/
def septSumsUptoRow : OpenClaim := { program := "ytedbbmopckbfbaa", sum := "4e29d94a1c593e07404d32c1e553cca0a28ec585eebb484605fa3a2b35b6ec6d", func := "taffrail/taffraillaw04.SeptSums", spec := "septSums", apart := false, narrowed := true }
def SeptSumsUptoSaid : Prop := septSumsUptoRow.holds Try.pinned (OpenSpec.upto septSumsSpec)

/-- 'taffraillaw02.LebPuts', WHERE WHAT IT READS IS OF BULK AT MOST 1048576: true; the input reads as it did. -/
def lebPutsUptoRow : OpenClaim := { program := "ytedbbmopckbfbaa", sum := "4e29d94a1c593e07404d32c1e553cca0a28ec585eebb484605fa3a2b35b6ec6d", func := "taffrail/taffraillaw02.LebPuts", spec := "lebPuts", apart := false, narrowed := true }
def LebPutsUptoSaid : Prop := lebPutsUptoRow.holds Try.pinned (OpenSpec.upto lebPutsSpec)

/-- 'taffraillaw02.LebGets', WHERE WHAT IT READS IS OF BULK AT MOST 1048576: true; the input reads as it did. -/
def lebGetsUptoRow : OpenClaim := { program := "ytedbbmopckbfbaa", sum := "4e29d94a1c593e07404d32c1e553cca0a28ec585eebb484605fa3a2b35b6ec6d", func := "taffrail/taffraillaw02.LebGets", spec := "lebGets", apart := false, narrowed := true }
def LebGetsUptoSaid : Prop := lebGetsUptoRow.holds Try.pinned (OpenSpec.upto lebGetsSpec)

/-- 'taffraillaw04.SeptPuts', WHERE WHAT IT READS IS OF BULK AT MOST 1048576: true; the input reads as it did. -/
def septPutsUptoRow : OpenClaim := { program := "ytedbbmopckbfbaa", sum := "4e29d94a1c593e07404d32c1e553cca0a28ec585eebb484605fa3a2b35b6ec6d", func := "taffrail/taffraillaw04.SeptPuts", spec := "septPuts", apart := false, narrowed := true }
def SeptPutsUptoSaid : Prop := septPutsUptoRow.holds Try.pinned (OpenSpec.upto septPutsSpec)

/-- 'taffraillaw04.SeptOne', WHERE WHAT IT READS IS OF BULK AT MOST 1048576: true; the input reads as it did. -/
def septOneUptoRow : OpenClaim := { program := "ytedbbmopckbfbaa", sum := "4e29d94a1c593e07404d32c1e553cca0a28ec585eebb484605fa3a2b35b6ec6d", func := "taffrail/taffraillaw04.SeptOne", spec := "septOne", apart := false, narrowed := true }
def SeptOneUptoSaid : Prop := septOneUptoRow.holds Try.pinned (OpenSpec.upto septOneSpec)

/-- 'taffraillaw02.LebBack', WHERE WHAT IT READS IS OF BULK AT MOST 1048576: true; the input reads as it did. -/
def lebBackUptoRow : OpenClaim := { program := "ytedbbmopckbfbaa", sum := "4e29d94a1c593e07404d32c1e553cca0a28ec585eebb484605fa3a2b35b6ec6d", func := "taffrail/taffraillaw02.LebBack", spec := "lebBack", apart := false, narrowed := true }
def LebBackUptoSaid : Prop := lebBackUptoRow.holds Try.pinned (OpenSpec.upto lebBackSpec)

/-- 'taffraillaw02.LebNil', WHERE WHAT IT READS IS OF BULK AT MOST 1048576: true; the input reads as it did. -/
def lebNilUptoRow : OpenClaim := { program := "ytedbbmopckbfbaa", sum := "4e29d94a1c593e07404d32c1e553cca0a28ec585eebb484605fa3a2b35b6ec6d", func := "taffrail/taffraillaw02.LebNil", spec := "lebNil", apart := false, narrowed := true }
def LebNilUptoSaid : Prop := lebNilUptoRow.holds Try.pinned (OpenSpec.upto lebNilSpec)

/-- 'taffraillaw01.CursorParts', WHERE WHAT IT READS IS OF BULK AT MOST 1048576: true; the input reads as it did. -/
def cursorPartsUptoRow : OpenClaim := { program := "ytedbbmopckbfbaa", sum := "4e29d94a1c593e07404d32c1e553cca0a28ec585eebb484605fa3a2b35b6ec6d", func := "taffrail/taffraillaw01.CursorParts", spec := "cursorParts", inPlace := ["internal/bytealg.IndexByteString", "internal/bytealg.IndexString"], named := ["internal/bytealg.MaxLen"], apart := false, narrowed := true }
def CursorPartsUptoSaid : Prop := cursorPartsUptoRow.holds Try.pinned (OpenSpec.upto cursorPartsSpec)

/-- 'taffraillaw01.CursorWrites', WHERE WHAT IT READS IS OF BULK AT MOST 1048576: true; the input reads as it did. -/
def cursorWritesUptoRow : OpenClaim := { program := "ytedbbmopckbfbaa", sum := "4e29d94a1c593e07404d32c1e553cca0a28ec585eebb484605fa3a2b35b6ec6d", func := "taffrail/taffraillaw01.CursorWrites", spec := "cursorWrites", inPlace := ["internal/bytealg.IndexByteString", "internal/bytealg.IndexString"], named := ["internal/bytealg.MaxLen"], apart := false, narrowed := true }
def CursorWritesUptoSaid : Prop := cursorWritesUptoRow.holds Try.pinned (OpenSpec.upto cursorWritesSpec)

/-- 'taffraillaw01.CursorReads', WHERE WHAT IT READS IS OF BULK AT MOST 1048576: true; the input reads as it did. -/
def cursorReadsUptoRow : OpenClaim := { program := "ytedbbmopckbfbaa", sum := "4e29d94a1c593e07404d32c1e553cca0a28ec585eebb484605fa3a2b35b6ec6d", func := "taffrail/taffraillaw01.CursorReads", spec := "cursorReads", inPlace := ["internal/bytealg.IndexByteString", "internal/bytealg.IndexString"], named := ["internal/bytealg.MaxLen"], apart := false, narrowed := true }
def CursorReadsUptoSaid : Prop := cursorReadsUptoRow.holds Try.pinned (OpenSpec.upto cursorReadsSpec)

/-- 'taffraillaw01.CursorFinds', WHERE WHAT IT READS IS OF BULK AT MOST 1048576: true; the input reads as it did. -/
def cursorFindsUptoRow : OpenClaim := { program := "ytedbbmopckbfbaa", sum := "4e29d94a1c593e07404d32c1e553cca0a28ec585eebb484605fa3a2b35b6ec6d", func := "taffrail/taffraillaw01.CursorFinds", spec := "cursorFinds", inPlace := ["internal/bytealg.IndexByteString", "internal/bytealg.IndexString"], named := ["internal/bytealg.MaxLen"], apart := false, narrowed := true }
def CursorFindsUptoSaid : Prop := cursorFindsUptoRow.holds Try.pinned (OpenSpec.upto cursorFindsSpec)

/-- 'taffraillaw01.CursorNil', WHERE WHAT IT READS IS OF BULK AT MOST 1048576: true; the input reads as it did. -/
def cursorNilUptoRow : OpenClaim := { program := "ytedbbmopckbfbaa", sum := "4e29d94a1c593e07404d32c1e553cca0a28ec585eebb484605fa3a2b35b6ec6d", func := "taffrail/taffraillaw01.CursorNil", spec := "cursorNil", inPlace := ["internal/bytealg.IndexByteString", "internal/bytealg.IndexString"], named := ["internal/bytealg.MaxLen"], apart := false, narrowed := true }
def CursorNilUptoSaid : Prop := cursorNilUptoRow.holds Try.pinned (OpenSpec.upto cursorNilSpec)

end Rows
end Go.Proofs.Ytedbbmopckbfbaa
