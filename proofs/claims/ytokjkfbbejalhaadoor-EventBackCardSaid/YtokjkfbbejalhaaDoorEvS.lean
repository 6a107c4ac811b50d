/- Contracts of the reference of layer 5 (first, second, third). No condition but those that each names. -/
import Derived.Test.YtokjkfbbejalhaaDoorProg
import Derived.Test.YtokjkfbbejalhaaDoorCore
import Derived.Test.YtokjkfbbejalhaaDoorEvR
namespace Go.Proofs.YtokjkfbbejalhaaDoor
open Go.RowKit
set_option maxRecDepth 20000
set_option maxHeartbeats 4000000 in
theorem rthird_any (e : Ev) (h : isK e.k = true) (w : World) : Calls Tryd.prog 27 #[e.val] w fun x w' => x = .returned (.bool (wth e.v (sh e.k).2.2)) ∧ Below w.heap.size w w' := by
  obtain ⟨k, cy, ct, a, b, v⟩ := e
  have h1 : 1 ≤ k ∧ k ≤ 24 := by simpa [isK] using h
  clear h
  unfold Ev.val
  simp only
  rcases k_cases h1.1 h1.2 with rfl | rfl | rfl | rfl | rfl | rfl | rfl | rfl | rfl | rfl | rfl | rfl | rfl | rfl | rfl | rfl | rfl | rfl | rfl | rfl | rfl | rfl | rfl | rfl
  all_goals (clear h1; go_enter Tryd.func27, Tryd.ntmps27)
  all_goals go_wp2_with (go_at_call 35; (with_reducible refine (in_any _ _ _ _).mono ?_); rintro e w1 ⟨rfl, rfl⟩)
  all_goals go_ret
  all_goals exact ⟨ret_bool (by rw [Bool.eq_iff_iff]; simp [wth, sh] <;> omega), (Below.refl _ _).alloc (Nat.le_refl _) _⟩
end Go.Proofs.YtokjkfbbejalhaaDoor
