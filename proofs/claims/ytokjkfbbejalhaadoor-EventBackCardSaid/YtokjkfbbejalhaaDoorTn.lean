/- Contract of the reference's Names. No condition. -/
import Derived.Test.YtokjkfbbejalhaaDoorTk
namespace Go.Proofs.YtokjkfbbejalhaaDoor
open Go Go.RowKit
set_option linter.unusedVariables false
set_option linter.unusedSimpArgs false
set_option maxRecDepth 20000
def NmIn (w : World) (b : Nat) : Prop := ∃ cs, w.heap[b]? = some (.cells cs 9 (0, 0)) ∧ ∀ k : Nat, 1 ≤ k → k ≤ 24 → cs[k]? = some (.string (nm k))
theorem NmIn.cell {w : World} {b k : Nat} (h : NmIn w b) (h1 : 1 ≤ k) (h2 : k ≤ 24) : w.cell? ⟨b, k, none⟩ = some (.string (nm k)) := by
  obtain ⟨cs, a, c⟩ := h
  rw [cell_blk a]
  exact c k h1 h2
theorem NmIn.on {w w' : World} {b : Nat} (h : NmIn w b) (k : Below w.heap.size w w') : NmIn w' b := by
  obtain ⟨cs, a, c⟩ := h
  exact ⟨cs, (k.block _ (blk_lt a)).trans a, c⟩
set_option maxHeartbeats 2000000 in
theorem rnames_any (w : World) : Calls Tryd.prog 12 #[] w fun e w' => e = .returned (.slice (some ⟨w.heap.size, 0, none⟩) 25 25) ∧ NmIn w' w.heap.size ∧ Below w.heap.size w w' ∧ w.heap.size < w'.heap.size := by
  go_enter Tryd.func12, Tryd.ntmps12
  go_wp2_with fail
  go_ret
  refine ⟨rfl, ⟨_, heap_alloc_new w _, ?_⟩, (Below.refl _ _).alloc (Nat.le_refl _) _, by simp⟩
  intro k h1 h2
  obtain rfl | rfl | rfl | rfl | rfl | rfl | rfl | rfl | rfl | rfl | rfl | rfl | rfl | rfl | rfl | rfl | rfl | rfl | rfl | rfl | rfl | rfl | rfl | rfl : k = 1 ∨ k = 2 ∨ k = 3 ∨ k = 4 ∨ k = 5 ∨ k = 6 ∨ k = 7 ∨ k = 8 ∨ k = 9 ∨ k = 10 ∨ k = 11 ∨ k = 12 ∨ k = 13 ∨ k = 14 ∨ k = 15 ∨ k = 16 ∨ k = 17 ∨ k = 18 ∨ k = 19 ∨ k = 20 ∨ k = 21 ∨ k = 22 ∨ k = 23 ∨ k = 24 := by omega
  all_goals rfl
end Go.Proofs.YtokjkfbbejalhaaDoor
