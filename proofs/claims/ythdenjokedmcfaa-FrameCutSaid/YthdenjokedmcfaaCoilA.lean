/- Contracts of package coil: steps, put, Size. No condition but those that each names. -/
import Derived.Test.YthdenjokedmcfaaLeb
import Derived.Test.YthdenjokedmcfaaEvC
import Derived.Test.YthdenjokedmcfaaCoil
namespace Go.Proofs.Ythdenjokedmcfaa
open Go.RowKit
set_option maxRecDepth 20000
set_option maxHeartbeats 4000000 in
theorem steps_any (b e : Ev) (hb : b.Wf) (he : e.Wf) (w : World) : Calls Try.prog 72 #[b.val, e.val] w fun x w' => x = .returned (.tuple #[.int .u64 (Stp b e).1, .int .i64 (Stp b e).2.1, .bool (Stp b e).2.2]) ∧ Below w.heap.size w w' := by
  obtain ⟨k, cy, ct, a, bb, v⟩ := e
  obtain ⟨k', cy', ct', a', b', v'⟩ := b
  have h1 := he.cy
  have h2 := he.ct
  have h3 := hb.cy
  have h4 := hb.ct
  simp only at h1 h2 h3 h4
  clear he hb
  unfold Ev.val
  simp only
  have hB := fun o o' => ((Below.refl w.heap.size w).alloc (Nat.le_refl _) o).alloc (by simp) o'
  by_cases q1 : ct < ct'
  · have hr : Stp ⟨k', cy', ct', a', b', v'⟩ ⟨k, cy, ct, a, bb, v⟩ = (0, 0, false) := by unfold Stp; rw [if_pos (.inl q1)]
    rw [hr]
    clear hr
    go_enter Try.func72, Try.ntmps72
    go_wp2
    go_ret3
    exact ⟨rfl, hB _ _⟩
  · by_cases q2 : cy < cy'
    · have hr : Stp ⟨k', cy', ct', a', b', v'⟩ ⟨k, cy, ct, a, bb, v⟩ = (0, 0, false) := by unfold Stp; rw [if_pos (.inr q2)]
      rw [hr]
      clear hr
      have q1' : ct' ≤ ct := by omega
      clear q1
      go_enter Try.func72, Try.ntmps72
      go_wp2
      go_ret3
      exact ⟨rfl, hB _ _⟩
    · obtain ⟨s, rfl⟩ : ∃ s, ct = ct' + s := ⟨ct - ct', by omega⟩
      obtain ⟨g, rfl⟩ : ∃ g, cy = cy' + g := ⟨cy - cy', by omega⟩
      clear q1 q2
      have z1 : (ct' : Int) + s - ct' = s := by omega
      have z2 : (cy' : Int) + g - cy' = g := by omega
      have hE : Stp ⟨k', cy', ct', a', b', v'⟩ ⟨k, cy' + g, ct' + s, a, bb, v⟩ = if 4294967295 < s ∨ (s < g ∧ 2147483648 ≤ g - s) ∨ (g < s ∧ 2147483648 < s - g) then (0, 0, false) else (s, (g : Int) - s, true) := by
        unfold Stp
        rw [if_neg (by simp only; omega)]
        simp only [Nat.add_sub_cancel_left]
      rw [hE]
      clear hE
      by_cases r1 : 4294967295 < s
      · rw [if_pos (.inl r1)]
        have r1' : (4294967295 : Int) < s := by omega
        clear r1
        go_enter Try.func72, Try.ntmps72
        go_wp2
        go_ret3
        exact ⟨rfl, hB _ _⟩
      · have r1' : (s : Int) ≤ 4294967295 := by omega
        by_cases g1 : s < g
        · have g1' : (s : Int) < g := by omega
          by_cases r2 : 2147483648 ≤ g - s
          · rw [if_pos (.inr (.inl ⟨g1, r2⟩))]
            have r2' : (2147483648 : Int) ≤ g - s := by omega
            clear r1 g1 r2
            go_enter Try.func72, Try.ntmps72
            go_wp2
            go_ret3
            exact ⟨rfl, hB _ _⟩
          · rw [if_neg (by omega)]
            have r2' : (g : Int) - s < 2147483648 := by omega
            have g2' : ¬ (g : Int) < s := by omega
            clear r1 g1 r2
            go_enter Try.func72, Try.ntmps72
            go_wp2
            go_ret3
            exact ⟨rfl, hB _ _⟩
        · have g1' : (g : Int) ≤ s := by omega
          by_cases g2 : g < s
          · have g2' : (g : Int) < s := by omega
            by_cases r2 : 2147483648 < s - g
            · rw [if_pos (.inr (.inr ⟨g2, r2⟩))]
              have r2' : (2147483648 : Int) < s - g := by omega
              clear r1 g1 r2 g2
              go_enter Try.func72, Try.ntmps72
              go_wp2
              go_ret3
              exact ⟨rfl, hB _ _⟩
            · rw [if_neg (by omega)]
              have r2' : (s : Int) - g ≤ 2147483648 := by omega
              clear r1 g1 r2 g2
              go_enter Try.func72, Try.ntmps72
              go_wp2
              go_ret3
              exact ⟨rfl, hB _ _⟩
          · obtain rfl : g = s := by omega
            rw [if_neg (by omega), show (g : Int) - g = 0 from by omega]
            clear r1 g1 g2
            go_enter Try.func72, Try.ntmps72
            go_wp2
            go_ret3
            exact ⟨rfl, hB _ _⟩
end Go.Proofs.Ythdenjokedmcfaa
