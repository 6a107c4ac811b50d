/- Contracts of the reference's Names (layer 10), reg, mode (layer 11). No condition but those that each names. -/
import Derived.Test.YtghfkpddkmaflaaDoorIr
namespace Go.Proofs.YtghfkpddkmaflaaDoor
open Go Go.RowKit
set_option linter.unusedVariables false
set_option linter.unusedSimpArgs false
set_option maxRecDepth 20000
def InIn (w : World) (b : Nat) : Prop := ∃ cs, w.heap[b]? = some (.cells cs 9 (0, 0)) ∧ ∀ k : Nat, k < 39 → cs[k]? = some (.string (inm k))
theorem InIn.cell {w : World} {b k : Nat} (h : InIn w b) (h1 : k < 39) : w.cell? ⟨b, k, none⟩ = some (.string (inm k)) := by
  obtain ⟨cs, a, c⟩ := h
  rw [cell_blk a]
  exact c k h1
theorem InIn.on {w w' : World} {b : Nat} (h : InIn w b) (k : Below w.heap.size w w') : InIn w' b := by
  obtain ⟨cs, a, c⟩ := h
  exact ⟨cs, (k.block _ (blk_lt a)).trans a, c⟩
set_option maxHeartbeats 2000000 in
theorem rinames_any (w : World) : Calls Tryd.prog 29 #[] w fun e w' => e = .returned (.slice (some ⟨w.heap.size, 0, none⟩) 39 39) ∧ InIn w' w.heap.size ∧ Below w.heap.size w w' ∧ w.heap.size < w'.heap.size := by
  go_enter Tryd.func29, Tryd.ntmps29
  go_wp2_with fail
  go_ret
  refine ⟨rfl, ⟨_, heap_alloc_new w _, ?_⟩, (Below.refl _ _).alloc (Nat.le_refl _) _, by simp⟩
  intro k h1
  by_cases h0 : k = 0
  · subst h0; rfl
  · have h2 := i_cases (k := (k : Int)) (by omega) (by omega)
    rcases h2 with h | h | h | h | h | h | h | h | h | h | h | h | h | h | h | h | h | h | h | h | h | h | h | h | h | h | h | h | h | h | h | h | h | h | h | h | h | h
    all_goals (obtain rfl : k = _ := Int.ofNat.inj h)
    all_goals rfl
theorem rreg_any (n : Nat) (h : n < 100) (w : World) : Calls Tryd.prog 30 #[.int .i64 n] w fun e w' => e = .returned (.string (RB n)) ∧ Below w.heap.size w w' := by
  have hm := fun x => rdig_any n (by unfold FOk; omega) x
  have he := RB_eq n
  have hz : (DB n).size ≤ 20 := DB_size n (by unfold FOk; omega)
  have he : (⟨#[114]⟩ : ByteArray) ++ DB n = RB n := he
  generalize DB n = D at hm he hz
  have hz1 : ¬ 9223372036854775807 < 1 + D.size := by omega
  have HE := Lib.hid he
  clear he
  go_enter Tryd.func30, Tryd.ntmps30
  go_wp2_with fail
  refine (hm _).mono ?_
  rintro e w1 ⟨rfl, hk⟩
  go_wp2_with fail
  go_ret
  exact ⟨by rw [HE.out]; rfl, hk⟩
theorem rreg_z (n : Int) (h0 : 0 ≤ n) (h : n < 100) (w : World) : Calls Tryd.prog 30 #[.int .i64 n] w fun e w' => e = .returned (.string (RB n)) ∧ Below w.heap.size w w' := by
  obtain ⟨m, rfl⟩ : ∃ m : Nat, n = m := ⟨n.toNat, by omega⟩
  exact rreg_any m (by omega) w
theorem rmode_any (d : Int) (w : World) : Calls Tryd.prog 31 #[.int .i64 d] w fun e w' => e = .returned (.string (mdB d)) ∧ w = w' := by
  by_cases h0 : d = 0
  · subst h0
    go_enter Tryd.func31, Tryd.ntmps31
    go_wp2_with fail
    go_ret
    exact ⟨rfl, rfl⟩
  · by_cases h1 : d = 1
    · subst h1
      go_enter Tryd.func31, Tryd.ntmps31
      go_wp2_with fail
      go_ret
      exact ⟨rfl, rfl⟩
    · have d0 : (d == 0) = false := by rw [beq_eq_false_iff_ne]; exact h0
      have d1 : (d == 1) = false := by rw [beq_eq_false_iff_ne]; exact h1
      have HM := Lib.hid (show mdB d = ⟨#[116, 105, 109, 101, 100]⟩ by unfold mdB; rw [if_neg h0, if_neg h1])
      clear h0 h1
      go_enter Tryd.func31, Tryd.ntmps31
      go_wp2_with fail
      go_ret
      exact ⟨by rw [HM.out]; rfl, rfl⟩
end Go.Proofs.YtghfkpddkmaflaaDoor
