/-
  No cell of these rows narrows 'for every input' (looked for: loops, veiled, ifaces, maps, wideKeys, modest, calm, conditions, laid).
  DERIVED. THE GIVEN ROWS OF THIS SEAT. 9 by the template 'for every input the law returns true; each argument reads behind the call as it read before'; 0 by the template 'total and deterministic' (their statements: YtbfipgeoecbpaaaTotals.lean).
  GIVEN WITH THE SEED: the statements are not yours to turn. If you find one false, say at which input.
  Laid BY PROGRAM, IN A SANDBOX (cutbox-rows.mjs): the forced cells as the released guide's own fill.sh prints them over the translation 542635d59c6662ca… (all of the seat's roots in one cut). By AI agents, Wed Nov 11 2026. No macro, syntax, notation, axiom, sorry.
-/
import Derived.Test.YtbfipgeoecbpaaaChecked
import GoSem.Claim
import GoSem.ClaimJoined
import GoSem.ClaimMapViews
import Derived.JoinedTies
import Derived.KernelRfl
namespace Go.Proofs.Ytbfipgeoecbpaaa
/- THE CELL 'sum', in the pinned program and in every row, IS THE sha256 OF THE DUMP (.gsa) THAT YtbfipgeoecbpaaaProg.lean LOADS. Nothing in Lean hashes anything: it is a label: what it is worth is what the hold of that sum in a sandbox is worth. -/
noncomputable def Try.pinned : Pinned := { name := "ytbfipgeoecbpaaa", sum := "542635d59c6662ca3609033e9601f7be98a0b861d2a35a65df51ee5a6c7cf636", checked := Try.checked }
namespace Rows
def none {H : Type} : Left H := { results := [], args := [] }

/-- 'taffraillaw23.RecNil': WHATEVER THE INPUT: true; the input reads as it did. -/
def recNilSpec : ChangeSpec := { name := "recNil", fn := fun _ => fun
  | [d1, d2] => { results := [.lit (.bool true)], args := [d1, d2] }
  | _ => none }
def recNilRow : OpenClaim := { program := "ytbfipgeoecbpaaa", sum := "542635d59c6662ca3609033e9601f7be98a0b861d2a35a65df51ee5a6c7cf636", func := "taffrail/taffraillaw23.RecNil", spec := "recNil", inPlace := ["internal/abi.NoEscape", "internal/bytealg.MakeNoZero"], apart := false }
def RecNilSaid : Prop := recNilRow.holds Try.pinned (OpenSpec.ofChange recNilSpec)

/-- ITS FALSE NEIGHBOUR: 'it returns false'. Refute it at one input. -/
def recNilWrong : ChangeSpec := { name := "recNil", fn := fun _ => fun
  | [d1, d2] => { results := [.lit (.bool false)], args := [d1, d2] }
  | _ => none }
def RecNilWrongFalsely : Prop := recNilRow.holds Try.pinned (OpenSpec.ofChange recNilWrong)

/-- 'taffraillaw23.RecSmall': WHATEVER THE INPUT: true; the input reads as it did. -/
def recSmallSpec : ChangeSpec := { name := "recSmall", fn := fun _ => fun
  | [d1, d2, d3] => { results := [.lit (.bool true)], args := [d1, d2, d3] }
  | _ => none }
def recSmallRow : OpenClaim := { program := "ytbfipgeoecbpaaa", sum := "542635d59c6662ca3609033e9601f7be98a0b861d2a35a65df51ee5a6c7cf636", func := "taffrail/taffraillaw23.RecSmall", spec := "recSmall", inPlace := ["internal/abi.NoEscape", "internal/bytealg.MakeNoZero"], apart := false }
def RecSmallSaid : Prop := recSmallRow.holds Try.pinned (OpenSpec.ofChange recSmallSpec)

/-- ITS FALSE NEIGHBOUR: 'it returns false'. Refute it at one input. -/
def recSmallWrong : ChangeSpec := { name := "recSmall", fn := fun _ => fun
  | [d1, d2, d3] => { results := [.lit (.bool false)], args := [d1, d2, d3] }
  | _ => none }
def RecSmallWrongFalsely : Prop := recSmallRow.holds Try.pinned (OpenSpec.ofChange recSmallWrong)

/-- 'taffraillaw23.RecWhole': WHATEVER THE INPUT: true; the input reads as it did. -/
def recWholeSpec : ChangeSpec := { name := "recWhole", fn := fun _ => fun
  | [d1, d2] => { results := [.lit (.bool true)], args := [d1, d2] }
  | _ => none }
def recWholeRow : OpenClaim := { program := "ytbfipgeoecbpaaa", sum := "542635d59c6662ca3609033e9601f7be98a0b861d2a35a65df51ee5a6c7cf636", func := "taffrail/taffraillaw23.RecWhole", spec := "recWhole", inPlace := ["internal/abi.NoEscape", "internal/bytealg.MakeNoZero"], apart := false }
def RecWholeSaid : Prop := recWholeRow.holds Try.pinned (OpenSpec.ofChange recWholeSpec)

/-- ITS FALSE NEIGHBOUR: 'it returns false'. Refute it at one input. -/
def recWholeWrong : ChangeSpec := { name := "recWhole", fn := fun _ => fun
  | [d1, d2] => { results := [.lit (.bool false)], args := [d1, d2] }
  | _ => none }
def RecWholeWrongFalsely : Prop := recWholeRow.holds Try.pinned (OpenSpec.ofChange recWholeWrong)

/-- 'taffraillaw23.RecRefuses': WHATEVER THE INPUT: true; the input reads as it did. -/
def recRefusesSpec : ChangeSpec := { name := "recRefuses", fn := fun _ => fun
  | [d1, d2] => { results := [.lit (.bool true)], args := [d1, d2] }
  | _ => none }
def recRefusesRow : OpenClaim := { program := "ytbfipgeoecbpaaa", sum := "542635d59c6662ca3609033e9601f7be98a0b861d2a35a65df51ee5a6c7cf636", func := "taffrail/taffraillaw23.RecRefuses", spec := "recRefuses", inPlace := ["internal/abi.NoEscape", "internal/bytealg.MakeNoZero"], apart := false }
def RecRefusesSaid : Prop := recRefusesRow.holds Try.pinned (OpenSpec.ofChange recRefusesSpec)

/-- ITS FALSE NEIGHBOUR: 'it returns false'. Refute it at one input. -/
def recRefusesWrong : ChangeSpec := { name := "recRefuses", fn := fun _ => fun
  | [d1, d2] => { results := [.lit (.bool false)], args := [d1, d2] }
  | _ => none }
def RecRefusesWrongFalsely : Prop := recRefusesRow.holds Try.pinned (OpenSpec.ofChange recRefusesWrong)

/-- 'taffraillaw23.RecPuts': WHATEVER THE INPUT: true; the input reads as it did. -/
def recPutsSpec : ChangeSpec := { name := "recPuts", fn := fun _ => fun
  | [d1, d2] => { results := [.lit (.bool true)], args := [d1, d2] }
  | _ => none }
def recPutsRow : OpenClaim := { program := "ytbfipgeoecbpaaa", sum := "542635d59c6662ca3609033e9601f7be98a0b861d2a35a65df51ee5a6c7cf636", func := "taffrail/taffraillaw23.RecPuts", spec := "recPuts", inPlace := ["internal/abi.NoEscape", "internal/bytealg.MakeNoZero"], apart := false }
def RecPutsSaid : Prop := recPutsRow.holds Try.pinned (OpenSpec.ofChange recPutsSpec)

/-- ITS FALSE NEIGHBOUR: 'it returns false'. Refute it at one input. -/
def recPutsWrong : ChangeSpec := { name := "recPuts", fn := fun _ => fun
  | [d1, d2] => { results := [.lit (.bool false)], args := [d1, d2] }
  | _ => none }
def RecPutsWrongFalsely : Prop := recPutsRow.holds Try.pinned (OpenSpec.ofChange recPutsWrong)

/-- 'taffraillaw23.RecBack': WHATEVER THE INPUT: true; the input reads as it did. -/
def recBackSpec : ChangeSpec := { name := "recBack", fn := fun _ => fun
  | [d1, d2] => { results := [.lit (.bool true)], args := [d1, d2] }
  | _ => none }
def recBackRow : OpenClaim := { program := "ytbfipgeoecbpaaa", sum := "542635d59c6662ca3609033e9601f7be98a0b861d2a35a65df51ee5a6c7cf636", func := "taffrail/taffraillaw23.RecBack", spec := "recBack", inPlace := ["internal/abi.NoEscape", "internal/bytealg.MakeNoZero"], apart := false }
def RecBackSaid : Prop := recBackRow.holds Try.pinned (OpenSpec.ofChange recBackSpec)

/-- ITS FALSE NEIGHBOUR: 'it returns false'. Refute it at one input. -/
def recBackWrong : ChangeSpec := { name := "recBack", fn := fun _ => fun
  | [d1, d2] => { results := [.lit (.bool false)], args := [d1, d2] }
  | _ => none }
def RecBackWrongFalsely : Prop := recBackRow.holds Try.pinned (OpenSpec.ofChange recBackWrong)

/-- 'taffraillaw24.PipeWaits': WHATEVER THE INPUT: true; the input reads as it did. -/
def pipeWaitsSpec : ChangeSpec := { name := "pipeWaits", fn := fun _ => fun
  | [d1, d2, d3] => { results := [.lit (.bool true)], args := [d1, d2, d3] }
  | _ => none }
def pipeWaitsRow : OpenClaim := { program := "ytbfipgeoecbpaaa", sum := "542635d59c6662ca3609033e9601f7be98a0b861d2a35a65df51ee5a6c7cf636", func := "taffrail/taffraillaw24.PipeWaits", spec := "pipeWaits", apart := false }
def PipeWaitsSaid : Prop := pipeWaitsRow.holds Try.pinned (OpenSpec.ofChange pipeWaitsSpec)

/-- ITS FALSE NEIGHBOUR: 'it returns false'. Refute it at one input. -/
def pipeWaitsWrong : ChangeSpec := { name := "pipeWaits", fn := fun _ => fun
  | [d1, d2, d3] => { results := [.lit (.bool false)], args := [d1, d2, d3] }
  | _ => none }
def PipeWaitsWrongFalsely : Prop := pipeWaitsRow.holds Try.pinned (OpenSpec.ofChange pipeWaitsWrong)

/-- 'taffraillaw24.PipePumps': WHATEVER THE INPUT: true; the input reads as it did. -/
def pipePumpsSpec : ChangeSpec := { name := "pipePumps", fn := fun _ => fun
  | [d1, d2, d3] => { results := [.lit (.bool true)], args := [d1, d2, d3] }
  | _ => none }
def pipePumpsRow : OpenClaim := { program := "ytbfipgeoecbpaaa", sum := "542635d59c6662ca3609033e9601f7be98a0b861d2a35a65df51ee5a6c7cf636", func := "taffrail/taffraillaw24.PipePumps", spec := "pipePumps", inPlace := ["internal/abi.NoEscape", "internal/bytealg.MakeNoZero"], apart := false }
def PipePumpsSaid : Prop := pipePumpsRow.holds Try.pinned (OpenSpec.ofChange pipePumpsSpec)

/-- ITS FALSE NEIGHBOUR: 'it returns false'. Refute it at one input. -/
def pipePumpsWrong : ChangeSpec := { name := "pipePumps", fn := fun _ => fun
  | [d1, d2, d3] => { results := [.lit (.bool false)], args := [d1, d2, d3] }
  | _ => none }
def PipePumpsWrongFalsely : Prop := pipePumpsRow.holds Try.pinned (OpenSpec.ofChange pipePumpsWrong)

/-- 'taffraillaw24.PipeNil': WHATEVER THE INPUT: true; the input reads as it did. -/
def pipeNilSpec : ChangeSpec := { name := "pipeNil", fn := fun _ => fun
  | [d1, d2] => { results := [.lit (.bool true)], args := [d1, d2] }
  | _ => none }
def pipeNilRow : OpenClaim := { program := "ytbfipgeoecbpaaa", sum := "542635d59c6662ca3609033e9601f7be98a0b861d2a35a65df51ee5a6c7cf636", func := "taffrail/taffraillaw24.PipeNil", spec := "pipeNil", inPlace := ["internal/abi.NoEscape", "internal/bytealg.MakeNoZero"], apart := false }
def PipeNilSaid : Prop := pipeNilRow.holds Try.pinned (OpenSpec.ofChange pipeNilSpec)

/-- ITS FALSE NEIGHBOUR: 'it returns false'. Refute it at one input. -/
def pipeNilWrong : ChangeSpec := { name := "pipeNil", fn := fun _ => fun
  | [d1, d2] => { results := [.lit (.bool false)], args := [d1, d2] }
  | _ => none }
def PipeNilWrongFalsely : Prop := pipeNilRow.holds Try.pinned (OpenSpec.ofChange pipeNilWrong)

/- THE SECOND FORM. 'bulk': how many values and letters a reading holds, each counted each time it is reached (what is shared counts as often as it is met; a slice's spare places count too). A statement '..UptoSaid' is the law's where the arguments, and the package variables that the reading takes, are together of bulk at most 1048576: NARROWER than '..Said'. Prove '..Said' where nothing that the law and all that it calls make is longer than what came in: it says more and counts as full. Else prove '..UptoSaid'. A law counts once. -/
mutual
def uptoBulk {H : Type} : DataW H → Nat
  | .lit (.string bytes) => bytes.length + 1
  | .lit _ => 1
  | .nil => 1
  | .ptr d => uptoBulk d + 1
  | .slice elems spare => uptoBulkAll elems + uptoBulkAll spare + 1
  | .agg parts => uptoBulkAll parts + 1
  | .iface _ d => uptoBulk d + 1
  | .map entries => uptoBulkEntries entries + 1
  | .held _ => 1
def uptoBulkAll {H : Type} : List (DataW H) → Nat
  | [] => 0
  | d :: r => uptoBulk d + uptoBulkAll r
def uptoBulkEntries {H : Type} : List (Lit × DataW H) → Nat
  | [] => 0
  | x :: r => uptoBulkEntry x + uptoBulkEntries r
def uptoBulkEntry {H : Type} : Lit × DataW H → Nat
  | (.string bytes, d) => bytes.length + uptoBulk d + 1
  | (_, d) => uptoBulk d + 1
 end
def uptoSmall : (H : Type) → List (DataW H) → Bool := fun _ ds => decide (uptoBulkAll ds ≤ 1048576)
def OpenSpec.upto (s : _root_.Go.ChangeSpec) : _root_.Go.OpenSpec := { _root_.Go.OpenSpec.ofChange s with cond := some uptoSmall }

/-- 'taffraillaw23.RecNil', WHERE WHAT IT READS IS OF BULK AT MOST 1048576: true; the input reads as it did. -/
def recNilUptoRow : OpenClaim := { program := "ytbfipgeoecbpaaa", sum := "542635d59c6662ca3609033e9601f7be98a0b861d2a35a65df51ee5a6c7cf636", func := "taffrail/taffraillaw23.RecNil", spec := "recNil", inPlace := ["internal/abi.NoEscape", "internal/bytealg.MakeNoZero"], apart := false, narrowed := true }
def RecNilUptoSaid : Prop := recNilUptoRow.holds Try.pinned (OpenSpec.upto recNilSpec)

/-- 'taffraillaw23.RecSmall', WHERE WHAT IT READS IS OF BULK AT MOST 1048576: true; the input reads as it did. -/
def recSmallUptoRow : OpenClaim := { program := "ytbfipgeoecbpaaa", sum := "542635d59c6662ca3609033e9601f7be98a0b861d2a35a65df51ee5a6c7cf636", func := "taffrail/taffraillaw23.RecSmall", spec := "recSmall", inPlace := ["internal/abi.NoEscape", "internal/bytealg.MakeNoZero"], apart := false, narrowed := true }
def RecSmallUptoSaid : Prop := recSmallUptoRow.holds Try.pinned (OpenSpec.upto recSmallSpec)

/-- 'taffraillaw23.RecWhole', WHERE WHAT IT READS IS OF BULK AT MOST 1048576: true; the input reads as it did. -/
def recWholeUptoRow : OpenClaim := { program := "ytbfipgeoecbpaaa", sum := "542635d59c6662ca3609033e9601f7be98a0b861d2a35a65df51ee5a6c7cf636", func := "taffrail/taffraillaw23.RecWhole", spec := "recWhole", inPlace := ["internal/abi.NoEscape", "internal/bytealg.MakeNoZero"], apart := false, narrowed := true }
def RecWholeUptoSaid : Prop := recWholeUptoRow.holds Try.pinned (OpenSpec.upto recWholeSpec)

/-- 'taffraillaw23.RecRefuses', WHERE WHAT IT READS IS OF BULK AT MOST 1048576: true; the input reads as it did. -/
def recRefusesUptoRow : OpenClaim := { program := "ytbfipgeoecbpaaa", sum := "542635d59c6662ca3609033e9601f7be98a0b861d2a35a65df51ee5a6c7cf636", func := "taffrail/taffraillaw23.RecRefuses", spec := "recRefuses", inPlace := ["internal/abi.NoEscape", "internal/bytealg.MakeNoZero"], apart := false, narrowed := true }
def RecRefusesUptoSaid : Prop := recRefusesUptoRow.holds Try.pinned (OpenSpec.upto recRefusesSpec)

/-- 'taffraillaw23.RecPuts', WHERE WHAT IT READS IS OF BULK AT MOST 1048576: true; the input reads as it did. -/
def recPutsUptoRow : OpenClaim := { program := "ytbfipgeoecbpaaa", sum := "542635d59c6662ca3609033e9601f7be98a0b861d2a35a65df51ee5a6c7cf636", func := "taffrail/taffraillaw23.RecPuts", spec := "recPuts", inPlace := ["internal/abi.NoEscape", "internal/bytealg.MakeNoZero"], apart := false, narrowed := true }
def RecPutsUptoSaid : Prop := recPutsUptoRow.holds Try.pinned (OpenSpec.upto recPutsSpec)

/-- 'taffraillaw23.RecBack', WHERE WHAT IT READS IS OF BULK AT MOST 1048576: true; the input reads as it did. -/
def recBackUptoRow : OpenClaim := { program := "ytbfipgeoecbpaaa", sum := "542635d59c6662ca3609033e9601f7be98a0b861d2a35a65df51ee5a6c7cf636", func := "taffrail/taffraillaw23.RecBack", spec := "recBack", inPlace := ["internal/abi.NoEscape", "internal/bytealg.MakeNoZero"], apart := false, narrowed := true }
def RecBackUptoSaid : Prop := recBackUptoRow.holds Try.pinned (OpenSpec.upto recBackSpec)

/-- 'taffraillaw24.PipeWaits', WHERE WHAT IT READS IS OF BULK AT MOST 1048576: true; the input reads as it did. -/
def pipeWaitsUptoRow : OpenClaim := { program := "ytbfipgeoecbpaaa", sum := "542635d59c6662ca3609033e9601f7be98a0b861d2a35a65df51ee5a6c7cf636", func := "taffrail/taffraillaw24.PipeWaits", spec := "pipeWaits", apart := false, narrowed := true }
def PipeWaitsUptoSaid : Prop := pipeWaitsUptoRow.holds Try.pinned (OpenSpec.upto pipeWaitsSpec)

/-- 'taffraillaw24.PipePumps', WHERE WHAT IT READS IS OF BULK AT MOST 1048576: true; the input reads as it did. -/
def pipePumpsUptoRow : OpenClaim := { program := "ytbfipgeoecbpaaa", sum := "542635d59c6662ca3609033e9601f7be98a0b861d2a35a65df51ee5a6c7cf636", func := "taffrail/taffraillaw24.PipePumps", spec := "pipePumps", inPlace := ["internal/abi.NoEscape", "internal/bytealg.MakeNoZero"], apart := false, narrowed := true }
def PipePumpsUptoSaid : Prop := pipePumpsUptoRow.holds Try.pinned (OpenSpec.upto pipePumpsSpec)

/-- 'taffraillaw24.PipeNil', WHERE WHAT IT READS IS OF BULK AT MOST 1048576: true; the input reads as it did. -/
def pipeNilUptoRow : OpenClaim := { program := "ytbfipgeoecbpaaa", sum := "542635d59c6662ca3609033e9601f7be98a0b861d2a35a65df51ee5a6c7cf636", func := "taffrail/taffraillaw24.PipeNil", spec := "pipeNil", inPlace := ["internal/abi.NoEscape", "internal/bytealg.MakeNoZero"], apart := false, narrowed := true }
def PipeNilUptoSaid : Prop := pipeNilUptoRow.holds Try.pinned (OpenSpec.upto pipeNilSpec)

end Rows
end Go.Proofs.Ytbfipgeoecbpaaa
