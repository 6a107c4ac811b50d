/-
  No cell of these rows narrows 'for every input' (looked for: loops, veiled, ifaces, maps, wideKeys, modest, calm, conditions, laid).
  DERIVED. THE GIVEN ROWS OF THIS SEAT. 6 by the template 'for every input the law returns true; each argument reads behind the call as it read before'; 0 by the template 'total and deterministic' (their statements: YtnkpajoakmilaaaTotals.lean).
  GIVEN WITH THE SEED: the statements are not yours to turn. If you find one false, say at which input.
  Laid BY PROGRAM, IN A SANDBOX (cutbox-rows.mjs): the forced cells as the released guide's own fill.sh prints them over the translation 829418b3c8a89f4d… (all of the seat's roots in one cut). By AI agents, Wed Nov 11 2026. No macro, syntax, notation, axiom, sorry.
-/
import Derived.Test.YtnkpajoakmilaaaChecked
import GoSem.Claim
import GoSem.ClaimJoined
import GoSem.ClaimMapViews
import Derived.JoinedTies
import Derived.KernelRfl
namespace Go.Proofs.Ytnkpajoakmilaaa
/- THE CELL 'sum', in the pinned program and in every row, IS THE sha256 OF THE DUMP (.gsa) THAT YtnkpajoakmilaaaProg.lean LOADS. Nothing in Lean hashes anything: it is a label: what it is worth is what the hold of that sum in a sandbox is worth. -/
noncomputable def Try.pinned : Pinned := { name := "ytnkpajoakmilaaa", sum := "829418b3c8a89f4d1648802a5866356a9dbe05eedfec5b333046c8803e3fc7e3", checked := Try.checked }
namespace Rows
def none {H : Type} : Left H := { results := [], args := [] }

/-- 'taffraillaw06.CoilPrints': WHATEVER THE INPUT: true; the input reads as it did. -/
def coilPrintsSpec : ChangeSpec := { name := "coilPrints", fn := fun _ => fun
  | [d] => { results := [.lit (.bool true)], args := [d] }
  | _ => none }
def coilPrintsRow : OpenClaim := { program := "ytnkpajoakmilaaa", sum := "829418b3c8a89f4d1648802a5866356a9dbe05eedfec5b333046c8803e3fc7e3", func := "taffrail/taffraillaw06.CoilPrints", spec := "coilPrints", apart := false }
def CoilPrintsSaid : Prop := coilPrintsRow.holds Try.pinned (OpenSpec.ofChange coilPrintsSpec)

/-- ITS FALSE NEIGHBOUR: 'it returns false'. Refute it at one input. -/
def coilPrintsWrong : ChangeSpec := { name := "coilPrints", fn := fun _ => fun
  | [d] => { results := [.lit (.bool false)], args := [d] }
  | _ => none }
def CoilPrintsWrongFalsely : Prop := coilPrintsRow.holds Try.pinned (OpenSpec.ofChange coilPrintsWrong)

/-- 'taffraillaw06.CoilReads': WHATEVER THE INPUT: true; the input reads as it did. -/
def coilReadsSpec : ChangeSpec := { name := "coilReads", fn := fun _ => fun
  | [d1, d2, d3] => { results := [.lit (.bool true)], args := [d1, d2, d3] }
  | _ => none }
def coilReadsRow : OpenClaim := { program := "ytnkpajoakmilaaa", sum := "829418b3c8a89f4d1648802a5866356a9dbe05eedfec5b333046c8803e3fc7e3", func := "taffrail/taffraillaw06.CoilReads", spec := "coilReads", apart := false }
def CoilReadsSaid : Prop := coilReadsRow.holds Try.pinned (OpenSpec.ofChange coilReadsSpec)

/-- ITS FALSE NEIGHBOUR: 'it returns false'. Refute it at one input. -/
def coilReadsWrong : ChangeSpec := { name := "coilReads", fn := fun _ => fun
  | [d1, d2, d3] => { results := [.lit (.bool false)], args := [d1, d2, d3] }
  | _ => none }
def CoilReadsWrongFalsely : Prop := coilReadsRow.holds Try.pinned (OpenSpec.ofChange coilReadsWrong)

/-- 'taffraillaw06.CoilBack': WHATEVER THE INPUT: true; the input reads as it did. -/
def coilBackSpec : ChangeSpec := { name := "coilBack", fn := fun _ => fun
  | [d] => { results := [.lit (.bool true)], args := [d] }
  | _ => none }
def coilBackRow : OpenClaim := { program := "ytnkpajoakmilaaa", sum := "829418b3c8a89f4d1648802a5866356a9dbe05eedfec5b333046c8803e3fc7e3", func := "taffrail/taffraillaw06.CoilBack", spec := "coilBack", apart := false }
def CoilBackSaid : Prop := coilBackRow.holds Try.pinned (OpenSpec.ofChange coilBackSpec)

/-- ITS FALSE NEIGHBOUR: 'it returns false'. Refute it at one input. -/
def coilBackWrong : ChangeSpec := { name := "coilBack", fn := fun _ => fun
  | [d] => { results := [.lit (.bool false)], args := [d] }
  | _ => none }
def CoilBackWrongFalsely : Prop := coilBackRow.holds Try.pinned (OpenSpec.ofChange coilBackWrong)

/-- 'taffraillaw06.CoilOne': WHATEVER THE INPUT: true; the input reads as it did. -/
def coilOneSpec : ChangeSpec := { name := "coilOne", fn := fun _ => fun
  | [d1, d2, d3] => { results := [.lit (.bool true)], args := [d1, d2, d3] }
  | _ => none }
def coilOneRow : OpenClaim := { program := "ytnkpajoakmilaaa", sum := "829418b3c8a89f4d1648802a5866356a9dbe05eedfec5b333046c8803e3fc7e3", func := "taffrail/taffraillaw06.CoilOne", spec := "coilOne", apart := false }
def CoilOneSaid : Prop := coilOneRow.holds Try.pinned (OpenSpec.ofChange coilOneSpec)

/-- ITS FALSE NEIGHBOUR: 'it returns false'. Refute it at one input. -/
def coilOneWrong : ChangeSpec := { name := "coilOne", fn := fun _ => fun
  | [d1, d2, d3] => { results := [.lit (.bool false)], args := [d1, d2, d3] }
  | _ => none }
def CoilOneWrongFalsely : Prop := coilOneRow.holds Try.pinned (OpenSpec.ofChange coilOneWrong)

/-- 'taffraillaw06.CoilSize': WHATEVER THE INPUT: true; the input reads as it did. -/
def coilSizeSpec : ChangeSpec := { name := "coilSize", fn := fun _ => fun
  | [d1, d2] => { results := [.lit (.bool true)], args := [d1, d2] }
  | _ => none }
def coilSizeRow : OpenClaim := { program := "ytnkpajoakmilaaa", sum := "829418b3c8a89f4d1648802a5866356a9dbe05eedfec5b333046c8803e3fc7e3", func := "taffrail/taffraillaw06.CoilSize", spec := "coilSize", apart := false }
def CoilSizeSaid : Prop := coilSizeRow.holds Try.pinned (OpenSpec.ofChange coilSizeSpec)

/-- ITS FALSE NEIGHBOUR: 'it returns false'. Refute it at one input. -/
def coilSizeWrong : ChangeSpec := { name := "coilSize", fn := fun _ => fun
  | [d1, d2] => { results := [.lit (.bool false)], args := [d1, d2] }
  | _ => none }
def CoilSizeWrongFalsely : Prop := coilSizeRow.holds Try.pinned (OpenSpec.ofChange coilSizeWrong)

/-- 'taffraillaw06.CoilRuns': WHATEVER THE INPUT: true; the input reads as it did. -/
def coilRunsSpec : ChangeSpec := { name := "coilRuns", fn := fun _ => fun
  | [d] => { results := [.lit (.bool true)], args := [d] }
  | _ => none }
def coilRunsRow : OpenClaim := { program := "ytnkpajoakmilaaa", sum := "829418b3c8a89f4d1648802a5866356a9dbe05eedfec5b333046c8803e3fc7e3", func := "taffrail/taffraillaw06.CoilRuns", spec := "coilRuns", apart := false }
def CoilRunsSaid : Prop := coilRunsRow.holds Try.pinned (OpenSpec.ofChange coilRunsSpec)

/-- ITS FALSE NEIGHBOUR: 'it returns false'. Refute it at one input. -/
def coilRunsWrong : ChangeSpec := { name := "coilRuns", fn := fun _ => fun
  | [d] => { results := [.lit (.bool false)], args := [d] }
  | _ => none }
def CoilRunsWrongFalsely : Prop := coilRunsRow.holds Try.pinned (OpenSpec.ofChange coilRunsWrong)

/- THE SECOND FORM. 'bulk': how many values and letters a reading holds, each counted each time it is reached (what is shared counts as often as it is met; a slice's spare places count too). A statement '..UptoSaid' is the law's where the arguments, and the package variables that the reading takes, are together of bulk at most 1048576: NARROWER than '..Said'. Prove '..Said' where nothing that the law and all that it calls make is longer than what came in: it says more and counts as full. Else prove '..UptoSaid'. A law counts once. -/
mutual
def uptoBulk {H : Type} : DataW H → Nat
  | .lit (.string bytes) => bytes.length + 1
  | .lit _ => 1
  | .nil => 1
  | .ptr d => uptoBulk d + 1
  | .slice elems spare => uptoBulkAll elems + uptoBulkAll spare + 1
  | .agg parts => uptoBulkAll parts + 1
  | .iface _ d => uptoBulk d + 1
  | .map entries => uptoBulkEntries entries + 1
  | .held _ => 1
def uptoBulkAll {H : Type} : List (DataW H) → Nat
  | [] => 0
  | d :: r => uptoBulk d + uptoBulkAll r
def uptoBulkEntries {H : Type} : List (Lit × DataW H) → Nat
  | [] => 0
  | x :: r => uptoBulkEntry x + uptoBulkEntries r
def uptoBulkEntry {H : Type} : Lit × DataW H → Nat
  | (.string bytes, d) => bytes.length + uptoBulk d + 1
  | (_, d) => uptoBulk d + 1
 end
def uptoSmall : (H : Type) → List (DataW H) → Bool := fun _ ds => decide (uptoBulkAll ds ≤ 1048576)
def OpenSpec.upto (s : _root_.Go.ChangeSpec) : _root_.Go.OpenSpec := { _root_.Go.OpenSpec.ofChange s with cond := some uptoSmall }

/-- 'taffraillaw06.CoilPrints', WHERE WHAT IT READS IS OF BULK AT MOST 1048576: true; the input reads as it did. -/
def coilPrintsUptoRow : OpenClaim := { program := "ytnkpajoakmilaaa", sum := "829418b3c8a89f4d1648802a5866356a9dbe05eedfec5b333046c8803e3fc7e3", func := "taffrail/taffraillaw06.CoilPrints", spec := "coilPrints", apart := false, narrowed := true }
def CoilPrintsUptoSaid : Prop := coilPrintsUptoRow.holds Try.pinned (OpenSpec.upto coilPrintsSpec)

/-- 'taffraillaw06.CoilReads', WHERE WHAT IT READS IS OF BULK AT MOST 1048576: true; the input reads as it did. -/
def coilReadsUptoRow : OpenClaim := { program := "ytnkpajoakmilaaa", sum := "829418b3c8a89f4d1648802a5866356a9dbe05eedfec5b333046c8803e3fc7e3", func := "taffrail/taffraillaw06.CoilReads", spec := "coilReads", apart := false, narrowed := true }
def CoilReadsUptoSaid : Prop := coilReadsUptoRow.holds Try.pinned (OpenSpec.upto coilReadsSpec)

/-- 'taffraillaw06.CoilBack', WHERE WHAT IT READS IS OF BULK AT MOST 1048576: true; the input reads as it did. -/
def coilBackUptoRow : OpenClaim := { program := "ytnkpajoakmilaaa", sum := "829418b3c8a89f4d1648802a5866356a9dbe05eedfec5b333046c8803e3fc7e3", func := "taffrail/taffraillaw06.CoilBack", spec := "coilBack", apart := false, narrowed := true }
def CoilBackUptoSaid : Prop := coilBackUptoRow.holds Try.pinned (OpenSpec.upto coilBackSpec)

/-- 'taffraillaw06.CoilOne', WHERE WHAT IT READS IS OF BULK AT MOST 1048576: true; the input reads as it did. -/
def coilOneUptoRow : OpenClaim := { program := "ytnkpajoakmilaaa", sum := "829418b3c8a89f4d1648802a5866356a9dbe05eedfec5b333046c8803e3fc7e3", func := "taffrail/taffraillaw06.CoilOne", spec := "coilOne", apart := false, narrowed := true }
def CoilOneUptoSaid : Prop := coilOneUptoRow.holds Try.pinned (OpenSpec.upto coilOneSpec)

/-- 'taffraillaw06.CoilSize', WHERE WHAT IT READS IS OF BULK AT MOST 1048576: true; the input reads as it did. -/
def coilSizeUptoRow : OpenClaim := { program := "ytnkpajoakmilaaa", sum := "829418b3c8a89f4d1648802a5866356a9dbe05eedfec5b333046c8803e3fc7e3", func := "taffrail/taffraillaw06.CoilSize", spec := "coilSize", apart := false, narrowed := true }
def CoilSizeUptoSaid : Prop := coilSizeUptoRow.holds Try.pinned (OpenSpec.upto coilSizeSpec)

/-- 'taffraillaw06.CoilRuns', WHERE WHAT IT READS IS OF BULK AT MOST 1048576: true; the input reads as it did. -/
def coilRunsUptoRow : OpenClaim := { program := "ytnkpajoakmilaaa", sum := "829418b3c8a89f4d1648802a5866356a9dbe05eedfec5b333046c8803e3fc7e3", func := "taffrail/taffraillaw06.CoilRuns", spec := "coilRuns", apart := false, narrowed := true }
def CoilRunsUptoSaid : Prop := coilRunsUptoRow.holds Try.pinned (OpenSpec.upto coilRunsSpec)

end Rows
end Go.Proofs.Ytnkpajoakmilaaa
