/-
  No cell of these rows narrows 'for every input' (looked for: loops, veiled, ifaces, maps, wideKeys, modest, calm, conditions, laid).
  DERIVED. THE GIVEN ROWS OF THIS SEAT. 14 by the template 'for every input the law returns true; each argument reads behind the call as it read before'; 0 by the template 'total and deterministic' (their statements: YthdenjokedmcfaaTotals.lean).
  GIVEN WITH THE SEED: the statements are not yours to turn. If you find one false, say at which input.
  Laid BY PROGRAM, IN A SANDBOX (cutbox-rows.mjs): the forced cells as the released guide's own fill.sh prints them over the translation 540301b643feb6d0… (all of the seat's roots in one cut). By AI agents, Wed Nov 11 2026. No macro, syntax, notation, axiom, sorry.
-/
import Derived.Test.YthdenjokedmcfaaChecked
import GoSem.Claim
import GoSem.ClaimJoined
import GoSem.ClaimMapViews
import Derived.JoinedTies
import Derived.KernelRfl
namespace Go.Proofs.Ythdenjokedmcfaa
/- THE CELL 'sum', in the pinned program and in every row, IS THE sha256 OF THE DUMP (.gsa) THAT YthdenjokedmcfaaProg.lean LOADS. Nothing in Lean hashes anything: it is a label: what it is worth is what the hold of that sum in a sandbox is worth. -/
noncomputable def Try.pinned : Pinned := { name := "ythdenjokedmcfaa", sum := "540301b643feb6d0abbe212f46594adb9ecbfe52bc9738f84618d2d1f265e5e0", checked := Try.checked }
namespace Rows
def none {H : Type} : Left H := { results := [], args := [] }

/-- 'taffraillaw09.HuntPlays': WHATEVER THE INPUT: true; the input reads as it did. -/
def huntPlaysSpec : ChangeSpec := { name := "huntPlays", fn := fun _ => fun
  | [d] => { results := [.lit (.bool true)], args := [d] }
  | _ => none }
def huntPlaysRow : OpenClaim := { program := "ythdenjokedmcfaa", sum := "540301b643feb6d0abbe212f46594adb9ecbfe52bc9738f84618d2d1f265e5e0", func := "taffrail/taffraillaw09.HuntPlays", spec := "huntPlays", inPlace := ["internal/abi.NoEscape", "internal/bytealg.MakeNoZero"], apart := false }
def HuntPlaysSaid : Prop := huntPlaysRow.holds Try.pinned (OpenSpec.ofChange huntPlaysSpec)

/-- ITS FALSE NEIGHBOUR: 'it returns false'. Refute it at one input. -/
def huntPlaysWrong : ChangeSpec := { name := "huntPlays", fn := fun _ => fun
  | [d] => { results := [.lit (.bool false)], args := [d] }
  | _ => none }
def HuntPlaysWrongFalsely : Prop := huntPlaysRow.holds Try.pinned (OpenSpec.ofChange huntPlaysWrong)

/-- 'taffraillaw09.HuntChunks': WHATEVER THE INPUT: true; the input reads as it did. -/
def huntChunksSpec : ChangeSpec := { name := "huntChunks", fn := fun _ => fun
  | [d] => { results := [.lit (.bool true)], args := [d] }
  | _ => none }
def huntChunksRow : OpenClaim := { program := "ythdenjokedmcfaa", sum := "540301b643feb6d0abbe212f46594adb9ecbfe52bc9738f84618d2d1f265e5e0", func := "taffrail/taffraillaw09.HuntChunks", spec := "huntChunks", inPlace := ["internal/abi.NoEscape", "internal/bytealg.MakeNoZero"], apart := false }
def HuntChunksSaid : Prop := huntChunksRow.holds Try.pinned (OpenSpec.ofChange huntChunksSpec)

/-- ITS FALSE NEIGHBOUR: 'it returns false'. Refute it at one input. -/
def huntChunksWrong : ChangeSpec := { name := "huntChunks", fn := fun _ => fun
  | [d] => { results := [.lit (.bool false)], args := [d] }
  | _ => none }
def HuntChunksWrongFalsely : Prop := huntChunksRow.holds Try.pinned (OpenSpec.ofChange huntChunksWrong)

/-- 'taffraillaw09.HuntCounts': WHATEVER THE INPUT: true; the input reads as it did. -/
def huntCountsSpec : ChangeSpec := { name := "huntCounts", fn := fun _ => fun
  | [d] => { results := [.lit (.bool true)], args := [d] }
  | _ => none }
def huntCountsRow : OpenClaim := { program := "ythdenjokedmcfaa", sum := "540301b643feb6d0abbe212f46594adb9ecbfe52bc9738f84618d2d1f265e5e0", func := "taffrail/taffraillaw09.HuntCounts", spec := "huntCounts", inPlace := ["internal/abi.NoEscape", "internal/bytealg.MakeNoZero"], apart := false }
def HuntCountsSaid : Prop := huntCountsRow.holds Try.pinned (OpenSpec.ofChange huntCountsSpec)

/-- ITS FALSE NEIGHBOUR: 'it returns false'. Refute it at one input. -/
def huntCountsWrong : ChangeSpec := { name := "huntCounts", fn := fun _ => fun
  | [d] => { results := [.lit (.bool false)], args := [d] }
  | _ => none }
def HuntCountsWrongFalsely : Prop := huntCountsRow.holds Try.pinned (OpenSpec.ofChange huntCountsWrong)

/-- 'taffraillaw09.HuntBurst': WHATEVER THE INPUT: true; the input reads as it did. -/
def huntBurstSpec : ChangeSpec := { name := "huntBurst", fn := fun _ => fun
  | [d1, d2, d3] => { results := [.lit (.bool true)], args := [d1, d2, d3] }
  | _ => none }
def huntBurstRow : OpenClaim := { program := "ythdenjokedmcfaa", sum := "540301b643feb6d0abbe212f46594adb9ecbfe52bc9738f84618d2d1f265e5e0", func := "taffrail/taffraillaw09.HuntBurst", spec := "huntBurst", inPlace := ["internal/abi.NoEscape", "internal/bytealg.MakeNoZero"], apart := false }
def HuntBurstSaid : Prop := huntBurstRow.holds Try.pinned (OpenSpec.ofChange huntBurstSpec)

/-- ITS FALSE NEIGHBOUR: 'it returns false'. Refute it at one input. -/
def huntBurstWrong : ChangeSpec := { name := "huntBurst", fn := fun _ => fun
  | [d1, d2, d3] => { results := [.lit (.bool false)], args := [d1, d2, d3] }
  | _ => none }
def HuntBurstWrongFalsely : Prop := huntBurstRow.holds Try.pinned (OpenSpec.ofChange huntBurstWrong)

/-- 'taffraillaw09.HuntJunk': WHATEVER THE INPUT: true; the input reads as it did. -/
def huntJunkSpec : ChangeSpec := { name := "huntJunk", fn := fun _ => fun
  | [d1, d2] => { results := [.lit (.bool true)], args := [d1, d2] }
  | _ => none }
def huntJunkRow : OpenClaim := { program := "ythdenjokedmcfaa", sum := "540301b643feb6d0abbe212f46594adb9ecbfe52bc9738f84618d2d1f265e5e0", func := "taffrail/taffraillaw09.HuntJunk", spec := "huntJunk", inPlace := ["internal/abi.NoEscape", "internal/bytealg.MakeNoZero"], apart := false }
def HuntJunkSaid : Prop := huntJunkRow.holds Try.pinned (OpenSpec.ofChange huntJunkSpec)

/-- ITS FALSE NEIGHBOUR: 'it returns false'. Refute it at one input. -/
def huntJunkWrong : ChangeSpec := { name := "huntJunk", fn := fun _ => fun
  | [d1, d2] => { results := [.lit (.bool false)], args := [d1, d2] }
  | _ => none }
def HuntJunkWrongFalsely : Prop := huntJunkRow.holds Try.pinned (OpenSpec.ofChange huntJunkWrong)

/-- 'taffraillaw09.HuntNil': WHATEVER THE INPUT: true; the input reads as it did. -/
def huntNilSpec : ChangeSpec := { name := "huntNil", fn := fun _ => fun
  | [d] => { results := [.lit (.bool true)], args := [d] }
  | _ => none }
def huntNilRow : OpenClaim := { program := "ythdenjokedmcfaa", sum := "540301b643feb6d0abbe212f46594adb9ecbfe52bc9738f84618d2d1f265e5e0", func := "taffrail/taffraillaw09.HuntNil", spec := "huntNil", inPlace := ["internal/abi.NoEscape", "internal/bytealg.MakeNoZero"], apart := false }
def HuntNilSaid : Prop := huntNilRow.holds Try.pinned (OpenSpec.ofChange huntNilSpec)

/-- ITS FALSE NEIGHBOUR: 'it returns false'. Refute it at one input. -/
def huntNilWrong : ChangeSpec := { name := "huntNil", fn := fun _ => fun
  | [d] => { results := [.lit (.bool false)], args := [d] }
  | _ => none }
def HuntNilWrongFalsely : Prop := huntNilRow.holds Try.pinned (OpenSpec.ofChange huntNilWrong)

/-- 'taffraillaw07.FramePrints': WHATEVER THE INPUT: true; the input reads as it did. -/
def framePrintsSpec : ChangeSpec := { name := "framePrints", fn := fun _ => fun
  | [d] => { results := [.lit (.bool true)], args := [d] }
  | _ => none }
def framePrintsRow : OpenClaim := { program := "ythdenjokedmcfaa", sum := "540301b643feb6d0abbe212f46594adb9ecbfe52bc9738f84618d2d1f265e5e0", func := "taffrail/taffraillaw07.FramePrints", spec := "framePrints", inPlace := ["internal/abi.NoEscape", "internal/bytealg.MakeNoZero"], apart := false }
def FramePrintsSaid : Prop := framePrintsRow.holds Try.pinned (OpenSpec.ofChange framePrintsSpec)

/-- ITS FALSE NEIGHBOUR: 'it returns false'. Refute it at one input. -/
def framePrintsWrong : ChangeSpec := { name := "framePrints", fn := fun _ => fun
  | [d] => { results := [.lit (.bool false)], args := [d] }
  | _ => none }
def FramePrintsWrongFalsely : Prop := framePrintsRow.holds Try.pinned (OpenSpec.ofChange framePrintsWrong)

/-- 'taffraillaw07.FrameReads': WHATEVER THE INPUT: true; the input reads as it did. -/
def frameReadsSpec : ChangeSpec := { name := "frameReads", fn := fun _ => fun
  | [d1, d2] => { results := [.lit (.bool true)], args := [d1, d2] }
  | _ => none }
def frameReadsRow : OpenClaim := { program := "ythdenjokedmcfaa", sum := "540301b643feb6d0abbe212f46594adb9ecbfe52bc9738f84618d2d1f265e5e0", func := "taffrail/taffraillaw07.FrameReads", spec := "frameReads", inPlace := ["internal/abi.NoEscape", "internal/bytealg.MakeNoZero"], apart := false }
def FrameReadsSaid : Prop := frameReadsRow.holds Try.pinned (OpenSpec.ofChange frameReadsSpec)

/-- ITS FALSE NEIGHBOUR: 'it returns false'. Refute it at one input. -/
def frameReadsWrong : ChangeSpec := { name := "frameReads", fn := fun _ => fun
  | [d1, d2] => { results := [.lit (.bool false)], args := [d1, d2] }
  | _ => none }
def FrameReadsWrongFalsely : Prop := frameReadsRow.holds Try.pinned (OpenSpec.ofChange frameReadsWrong)

/-- 'taffraillaw07.FrameBack': WHATEVER THE INPUT: true; the input reads as it did. -/
def frameBackSpec : ChangeSpec := { name := "frameBack", fn := fun _ => fun
  | [d1, d2, d3] => { results := [.lit (.bool true)], args := [d1, d2, d3] }
  | _ => none }
def frameBackRow : OpenClaim := { program := "ythdenjokedmcfaa", sum := "540301b643feb6d0abbe212f46594adb9ecbfe52bc9738f84618d2d1f265e5e0", func := "taffrail/taffraillaw07.FrameBack", spec := "frameBack", inPlace := ["internal/abi.NoEscape", "internal/bytealg.MakeNoZero"], apart := false }
def FrameBackSaid : Prop := frameBackRow.holds Try.pinned (OpenSpec.ofChange frameBackSpec)

/-- ITS FALSE NEIGHBOUR: 'it returns false'. Refute it at one input. -/
def frameBackWrong : ChangeSpec := { name := "frameBack", fn := fun _ => fun
  | [d1, d2, d3] => { results := [.lit (.bool false)], args := [d1, d2, d3] }
  | _ => none }
def FrameBackWrongFalsely : Prop := frameBackRow.holds Try.pinned (OpenSpec.ofChange frameBackWrong)

/-- 'taffraillaw07.FrameOne': WHATEVER THE INPUT: true; the input reads as it did. -/
def frameOneSpec : ChangeSpec := { name := "frameOne", fn := fun _ => fun
  | [d1, d2] => { results := [.lit (.bool true)], args := [d1, d2] }
  | _ => none }
def frameOneRow : OpenClaim := { program := "ythdenjokedmcfaa", sum := "540301b643feb6d0abbe212f46594adb9ecbfe52bc9738f84618d2d1f265e5e0", func := "taffrail/taffraillaw07.FrameOne", spec := "frameOne", inPlace := ["internal/abi.NoEscape", "internal/bytealg.MakeNoZero"], apart := false }
def FrameOneSaid : Prop := frameOneRow.holds Try.pinned (OpenSpec.ofChange frameOneSpec)

/-- ITS FALSE NEIGHBOUR: 'it returns false'. Refute it at one input. -/
def frameOneWrong : ChangeSpec := { name := "frameOne", fn := fun _ => fun
  | [d1, d2] => { results := [.lit (.bool false)], args := [d1, d2] }
  | _ => none }
def FrameOneWrongFalsely : Prop := frameOneRow.holds Try.pinned (OpenSpec.ofChange frameOneWrong)

/-- 'taffraillaw07.FrameCut': WHATEVER THE INPUT: true; the input reads as it did. -/
def frameCutSpec : ChangeSpec := { name := "frameCut", fn := fun _ => fun
  | [d1, d2] => { results := [.lit (.bool true)], args := [d1, d2] }
  | _ => none }
def frameCutRow : OpenClaim := { program := "ythdenjokedmcfaa", sum := "540301b643feb6d0abbe212f46594adb9ecbfe52bc9738f84618d2d1f265e5e0", func := "taffrail/taffraillaw07.FrameCut", spec := "frameCut", inPlace := ["internal/abi.NoEscape", "internal/bytealg.MakeNoZero"], apart := false }
def FrameCutSaid : Prop := frameCutRow.holds Try.pinned (OpenSpec.ofChange frameCutSpec)

/-- ITS FALSE NEIGHBOUR: 'it returns false'. Refute it at one input. -/
def frameCutWrong : ChangeSpec := { name := "frameCut", fn := fun _ => fun
  | [d1, d2] => { results := [.lit (.bool false)], args := [d1, d2] }
  | _ => none }
def FrameCutWrongFalsely : Prop := frameCutRow.holds Try.pinned (OpenSpec.ofChange frameCutWrong)

/-- 'taffraillaw07.FrameBurst': WHATEVER THE INPUT: true; the input reads as it did. -/
def frameBurstSpec : ChangeSpec := { name := "frameBurst", fn := fun _ => fun
  | [d1, d2, d3] => { results := [.lit (.bool true)], args := [d1, d2, d3] }
  | _ => none }
def frameBurstRow : OpenClaim := { program := "ythdenjokedmcfaa", sum := "540301b643feb6d0abbe212f46594adb9ecbfe52bc9738f84618d2d1f265e5e0", func := "taffrail/taffraillaw07.FrameBurst", spec := "frameBurst", inPlace := ["internal/abi.NoEscape", "internal/bytealg.MakeNoZero"], apart := false }
def FrameBurstSaid : Prop := frameBurstRow.holds Try.pinned (OpenSpec.ofChange frameBurstSpec)

/-- ITS FALSE NEIGHBOUR: 'it returns false'. Refute it at one input. -/
def frameBurstWrong : ChangeSpec := { name := "frameBurst", fn := fun _ => fun
  | [d1, d2, d3] => { results := [.lit (.bool false)], args := [d1, d2, d3] }
  | _ => none }
def FrameBurstWrongFalsely : Prop := frameBurstRow.holds Try.pinned (OpenSpec.ofChange frameBurstWrong)

/-- 'taffraillaw07.FrameMarkers': WHATEVER THE INPUT: true; the input reads as it did. -/
def frameMarkersSpec : ChangeSpec := { name := "frameMarkers", fn := fun _ => fun
  | [d] => { results := [.lit (.bool true)], args := [d] }
  | _ => none }
def frameMarkersRow : OpenClaim := { program := "ythdenjokedmcfaa", sum := "540301b643feb6d0abbe212f46594adb9ecbfe52bc9738f84618d2d1f265e5e0", func := "taffrail/taffraillaw07.FrameMarkers", spec := "frameMarkers", inPlace := ["internal/abi.NoEscape", "internal/bytealg.MakeNoZero"], apart := false }
def FrameMarkersSaid : Prop := frameMarkersRow.holds Try.pinned (OpenSpec.ofChange frameMarkersSpec)

/-- ITS FALSE NEIGHBOUR: 'it returns false'. Refute it at one input. -/
def frameMarkersWrong : ChangeSpec := { name := "frameMarkers", fn := fun _ => fun
  | [d] => { results := [.lit (.bool false)], args := [d] }
  | _ => none }
def FrameMarkersWrongFalsely : Prop := frameMarkersRow.holds Try.pinned (OpenSpec.ofChange frameMarkersWrong)

/-- 'taffraillaw07.FrameNil': WHATEVER THE INPUT: true; the input reads as it did. -/
def frameNilSpec : ChangeSpec := { name := "frameNil", fn := fun _ => fun
  | [d1, d2, d3] => { results := [.lit (.bool true)], args := [d1, d2, d3] }
  | _ => none }
def frameNilRow : OpenClaim := { program := "ythdenjokedmcfaa", sum := "540301b643feb6d0abbe212f46594adb9ecbfe52bc9738f84618d2d1f265e5e0", func := "taffrail/taffraillaw07.FrameNil", spec := "frameNil", inPlace := ["internal/abi.NoEscape", "internal/bytealg.MakeNoZero"], apart := false }
def FrameNilSaid : Prop := frameNilRow.holds Try.pinned (OpenSpec.ofChange frameNilSpec)

/-- ITS FALSE NEIGHBOUR: 'it returns false'. Refute it at one input. -/
def frameNilWrong : ChangeSpec := { name := "frameNil", fn := fun _ => fun
  | [d1, d2, d3] => { results := [.lit (.bool false)], args := [d1, d2, d3] }
  | _ => none }
def FrameNilWrongFalsely : Prop := frameNilRow.holds Try.pinned (OpenSpec.ofChange frameNilWrong)

/- THE SECOND FORM. 'bulk': how many values and letters a reading holds, each counted each time it is reached (what is shared counts as often as it is met; a slice's spare places count too). A statement '..UptoSaid' is the law's where the arguments, and the package variables that the reading takes, are together of bulk at most 1048576: NARROWER than '..Said'. Prove '..Said' where nothing that the law and all that it calls make is longer than what came in: it says more and counts as full. Else prove '..UptoSaid'. A law counts once. -/
mutual
def uptoBulk {H : Type} : DataW H → Nat
  | .lit (.string bytes) => bytes.length + 1
  | .lit _ => 1
  | .nil => 1
  | .ptr d => uptoBulk d + 1
  | .slice elems spare => uptoBulkAll elems + uptoBulkAll spare + 1
  | .agg parts => uptoBulkAll parts + 1
  | .iface _ d => uptoBulk d + 1
  | .map entries => uptoBulkEntries entries + 1
  | .held _ => 1
def uptoBulkAll {H : Type} : List (DataW H) → Nat
  | [] => 0
  | d :: r => uptoBulk d + uptoBulkAll r
def uptoBulkEntries {H : Type} : List (Lit × DataW H) → Nat
  | [] => 0
  | x :: r => uptoBulkEntry x + uptoBulkEntries r
def uptoBulkEntry {H : Type} : Lit × DataW H → Nat
  | (.string bytes, d) => bytes.length + uptoBulk d + 1
  | (_, d) => uptoBulk d + 1
 end
def uptoSmall : (H : Type) → List (DataW H) → Bool := fun _ ds => decide (uptoBulkAll ds ≤ 1048576)
def OpenSpec.upto (s : _root_.Go.ChangeSpec) : _root_.Go.OpenSpec := { _root_.Go.OpenSpec.ofChange s with cond := some uptoSmall }

/-- 'taffraillaw09.HuntPlays', WHERE WHAT IT READS IS OF BULK AT MOST 1048576: true; the input reads as it did. -/
def huntPlaysUptoRow : OpenClaim := { program := "ythdenjokedmcfaa", sum := "540301b643feb6d0abbe212f46594adb9ecbfe52bc9738f84618d2d1f265e5e0", func := "taffrail/taffraillaw09.HuntPlays", spec := "huntPlays", inPlace := ["internal/abi.NoEscape", "internal/bytealg.MakeNoZero"], apart := false, narrowed := true }
def HuntPlaysUptoSaid : Prop := huntPlaysUptoRow.holds Try.pinned (OpenSpec.upto huntPlaysSpec)

/-- 'taffraillaw09.HuntChunks', WHERE WHAT IT READS IS OF BULK AT MOST 1048576: true; the input reads as it did. -/
def huntChunksUptoRow : OpenClaim := { program := "ythdenjokedmcfaa", sum := "540301b643feb6d0abbe212f46594adb9ecbfe52bc9738f84618d2d1f265e5e0", func := "taffrail/taffraillaw09.HuntChunks", spec := "huntChunks", inPlace := ["internal/abi.NoEscape", "internal/bytealg.MakeNoZero"], apart := false, narrowed := true }
def HuntChunksUptoSaid : Prop := huntChunksUptoRow.holds Try.pinned (OpenSpec.upto huntChunksSpec)

/-- 'taffraillaw09.HuntCounts', WHERE WHAT IT READS IS OF BULK AT MOST 1048576: true; the input reads as it did. -/
def huntCountsUptoRow : OpenClaim := { program := "ythdenjokedmcfaa", sum := "540301b643feb6d0abbe212f46594adb9ecbfe52bc9738f84618d2d1f265e5e0", func := "taffrail/taffraillaw09.HuntCounts", spec := "huntCounts", inPlace := ["internal/abi.NoEscape", "internal/bytealg.MakeNoZero"], apart := false, narrowed := true }
def HuntCountsUptoSaid : Prop := huntCountsUptoRow.holds Try.pinned (OpenSpec.upto huntCountsSpec)

/-- 'taffraillaw09.HuntBurst', WHERE WHAT IT READS IS OF BULK AT MOST 1048576: true; the input reads as it did. -/
def huntBurstUptoRow : OpenClaim := { program := "ythdenjokedmcfaa", sum := "540301b643feb6d0abbe212f46594adb9ecbfe52bc9738f84618d2d1f265e5e0", func := "taffrail/taffraillaw09.HuntBurst", spec := "huntBurst", inPlace := ["internal/abi.NoEscape", "internal/bytealg.MakeNoZero"], apart := false, narrowed := true }
def HuntBurstUptoSaid : Prop := huntBurstUptoRow.holds Try.pinned (OpenSpec.upto huntBurstSpec)

/-- 'taffraillaw09.HuntJunk', WHERE WHAT IT READS IS OF BULK AT MOST 1048576: true; the input reads as it did. -/
def huntJunkUptoRow : OpenClaim := { program := "ythdenjokedmcfaa", sum := "540301b643feb6d0abbe212f46594adb9ecbfe52bc9738f84618d2d1f265e5e0", func := "taffrail/taffraillaw09.HuntJunk", spec := "huntJunk", inPlace := ["internal/abi.NoEscape", "internal/bytealg.MakeNoZero"], apart := false, narrowed := true }
def HuntJunkUptoSaid : Prop := huntJunkUptoRow.holds Try.pinned (OpenSpec.upto huntJunkSpec)

/-- 'taffraillaw09.HuntNil', WHERE WHAT IT READS IS OF BULK AT MOST 1048576: true; the input reads as it did. -/
def huntNilUptoRow : OpenClaim := { program := "ythdenjokedmcfaa", sum := "540301b643feb6d0abbe212f46594adb9ecbfe52bc9738f84618d2d1f265e5e0", func := "taffrail/taffraillaw09.HuntNil", spec := "huntNil", inPlace := ["internal/abi.NoEscape", "internal/bytealg.MakeNoZero"], apart := false, narrowed := true }
def HuntNilUptoSaid : Prop := huntNilUptoRow.holds Try.pinned (OpenSpec.upto huntNilSpec)

/-- 'taffraillaw07.FramePrints', WHERE WHAT IT READS IS OF BULK AT MOST 1048576: true; the input reads as it did. -/
def framePrintsUptoRow : OpenClaim := { program := "ythdenjokedmcfaa", sum := "540301b643feb6d0abbe212f46594adb9ecbfe52bc9738f84618d2d1f265e5e0", func := "taffrail/taffraillaw07.FramePrints", spec := "framePrints", inPlace := ["internal/abi.NoEscape", "internal/bytealg.MakeNoZero"], apart := false, narrowed := true }
def FramePrintsUptoSaid : Prop := framePrintsUptoRow.holds Try.pinned (OpenSpec.upto framePrintsSpec)

/-- 'taffraillaw07.FrameReads', WHERE WHAT IT READS IS OF BULK AT MOST 1048576: true; the input reads as it did. -/
def frameReadsUptoRow : OpenClaim := { program := "ythdenjokedmcfaa", sum := "540301b643feb6d0abbe212f46594adb9ecbfe52bc9738f84618d2d1f265e5e0", func := "taffrail/taffraillaw07.FrameReads", spec := "frameReads", inPlace := ["internal/abi.NoEscape", "internal/bytealg.MakeNoZero"], apart := false, narrowed := true }
def FrameReadsUptoSaid : Prop := frameReadsUptoRow.holds Try.pinned (OpenSpec.upto frameReadsSpec)

/-- 'taffraillaw07.FrameBack', WHERE WHAT IT READS IS OF BULK AT MOST 1048576: true; the input reads as it did. -/
def frameBackUptoRow : OpenClaim := { program := "ythdenjokedmcfaa", sum := "540301b643feb6d0abbe212f46594adb9ecbfe52bc9738f84618d2d1f265e5e0", func := "taffrail/taffraillaw07.FrameBack", spec := "frameBack", inPlace := ["internal/abi.NoEscape", "internal/bytealg.MakeNoZero"], apart := false, narrowed := true }
def FrameBackUptoSaid : Prop := frameBackUptoRow.holds Try.pinned (OpenSpec.upto frameBackSpec)

/-- 'taffraillaw07.FrameOne', WHERE WHAT IT READS IS OF BULK AT MOST 1048576: true; the input reads as it did. -/
def frameOneUptoRow : OpenClaim := { program := "ythdenjokedmcfaa", sum := "540301b643feb6d0abbe212f46594adb9ecbfe52bc9738f84618d2d1f265e5e0", func := "taffrail/taffraillaw07.FrameOne", spec := "frameOne", inPlace := ["internal/abi.NoEscape", "internal/bytealg.MakeNoZero"], apart := false, narrowed := true }
def FrameOneUptoSaid : Prop := frameOneUptoRow.holds Try.pinned (OpenSpec.upto frameOneSpec)

/-- 'taffraillaw07.FrameCut', WHERE WHAT IT READS IS OF BULK AT MOST 1048576: true; the input reads as it did. -/
def frameCutUptoRow : OpenClaim := { program := "ythdenjokedmcfaa", sum := "540301b643feb6d0abbe212f46594adb9ecbfe52bc9738f84618d2d1f265e5e0", func := "taffrail/taffraillaw07.FrameCut", spec := "frameCut", inPlace := ["internal/abi.NoEscape", "internal/bytealg.MakeNoZero"], apart := false, narrowed := true }
def FrameCutUptoSaid : Prop := frameCutUptoRow.holds Try.pinned (OpenSpec.upto frameCutSpec)

/-- 'taffraillaw07.FrameBurst', WHERE WHAT IT READS IS OF BULK AT MOST 1048576: true; the input reads as it did. -/
def frameBurstUptoRow : OpenClaim := { program := "ythdenjokedmcfaa", sum := "540301b643feb6d0abbe212f46594adb9ecbfe52bc9738f84618d2d1f265e5e0", func := "taffrail/taffraillaw07.FrameBurst", spec := "frameBurst", inPlace := ["internal/abi.NoEscape", "internal/bytealg.MakeNoZero"], apart := false, narrowed := true }
def FrameBurstUptoSaid : Prop := frameBurstUptoRow.holds Try.pinned (OpenSpec.upto frameBurstSpec)

/-- 'taffraillaw07.FrameMarkers', WHERE WHAT IT READS IS OF BULK AT MOST 1048576: true; the input reads as it did. -/
def frameMarkersUptoRow : OpenClaim := { program := "ythdenjokedmcfaa", sum := "540301b643feb6d0abbe212f46594adb9ecbfe52bc9738f84618d2d1f265e5e0", func := "taffrail/taffraillaw07.FrameMarkers", spec := "frameMarkers", inPlace := ["internal/abi.NoEscape", "internal/bytealg.MakeNoZero"], apart := false, narrowed := true }
def FrameMarkersUptoSaid : Prop := frameMarkersUptoRow.holds Try.pinned (OpenSpec.upto frameMarkersSpec)

/-- 'taffraillaw07.FrameNil', WHERE WHAT IT READS IS OF BULK AT MOST 1048576: true; the input reads as it did. -/
def frameNilUptoRow : OpenClaim := { program := "ythdenjokedmcfaa", sum := "540301b643feb6d0abbe212f46594adb9ecbfe52bc9738f84618d2d1f265e5e0", func := "taffrail/taffraillaw07.FrameNil", spec := "frameNil", inPlace := ["internal/abi.NoEscape", "internal/bytealg.MakeNoZero"], apart := false, narrowed := true }
def FrameNilUptoSaid : Prop := frameNilUptoRow.holds Try.pinned (OpenSpec.upto frameNilSpec)

end Rows
end Go.Proofs.Ythdenjokedmcfaa
