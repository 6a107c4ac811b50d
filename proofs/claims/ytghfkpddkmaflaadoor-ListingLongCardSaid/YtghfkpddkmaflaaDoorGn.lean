/- Contract of event.number. Conditions: the library's variables' data. -/
import Derived.Test.YtghfkpddkmaflaaDoorGl
namespace Go.Proofs.YtghfkpddkmaflaaDoor
open Go.RowKit Go.Sort
set_option linter.unusedVariables false
set_option linter.unusedSimpArgs false
set_option maxRecDepth 20000
/-- What a word says, of so many bits. -/
def NumPost (B : Nat) (l : List UInt8) (w : World) (e : Ending) (w' : World) : Prop := ∃ n : Nat, e = .returned (.tuple #[.int .u64 n, .bool (numP B l).isSome]) ∧ (∀ u, numP B l = some u → n = u) ∧ n < 18446744073709551616 ∧ Below w.heap.size w w'
theorem bel_bytes {w w' : World} {t : TypeId} {s : ByteArray} (h : w' = w ∨ w' = Lib.bytesWorld w t s) : Below w.heap.size w w' := by
  rcases h with rfl | rfl
  · exact Below.refl _ _
  · exact ⟨rfl, rfl, rfl, by rw [Lib.bytesWorld_size]; omega, fun j hj => Lib.bytesWorld_at_old w t s j hj⟩
theorem ba_list (s : ByteArray) : s.toList = s.data.toList := ByteArray.toList_eq s
end Go.Proofs.YtghfkpddkmaflaaDoor
