/- Contracts of the reference of layer 6: Steps, One. No condition but those that each names. -/
import Derived.Test.YthdenjokedmcfaaCoilS
import Derived.Test.YthdenjokedmcfaaRef2
import Derived.Test.YthdenjokedmcfaaEvT
import Derived.Deep.DeepCutAuto
import Derived.Deep.RegionHeld3
namespace Go.Proofs.Ythdenjokedmcfaa
open Go.RowKit
set_option maxRecDepth 20000
/-- What the reference's Steps leaves: the folded drift, where it can be told. -/
def RSt (b e : Ev) (w : World) (x : Ending) (w' : World) : Prop :=
  ∃ s f : Nat, x = .returned (.tuple #[.int .u64 s, .int .u64 f, .bool (Stp b e).2.2]) ∧ ((Stp b e).2.2 = true → s = (Stp b e).1 ∧ f = foldV (Stp b e).2.1) ∧ Below w.heap.size w w'
/-- .. by the three answers. -/
def RSt3 (r : Nat × Int × Bool) (w : World) (x : Ending) (w' : World) : Prop :=
  ∃ s f : Nat, x = .returned (.tuple #[.int .u64 s, .int .u64 f, .bool r.2.2]) ∧ (r.2.2 = true → s = r.1 ∧ f = foldV r.2.1) ∧ Below w.heap.size w w'
theorem mkRSt {r : Nat × Int × Bool} {w : World} {w' : World} {X F : Int} {t : Bool} (s f : Nat) (hX : X = s) (hF : F = f) (ht : t = r.2.2) (hB : Below w.heap.size w w') (h : r.2.2 = true → s = r.1 ∧ f = foldV r.2.1) :
    RSt3 r w (.returned (.tuple #[.int .u64 X, .int .u64 F, .bool t])) w' := by
  subst hX hF ht
  exact ⟨s, f, rfl, h, hB⟩
set_option maxHeartbeats 4000000 in
theorem rsteps_any (b e : Ev) (hb : b.Wf) (he : e.Wf) (w : World) : Calls Try.prog 68 #[b.val, e.val] w (RSt b e w) := by
  show Calls Try.prog 68 #[b.val, e.val] w (RSt3 (Stp b e) w)
  obtain ⟨k, cy, ct, a, bb, v⟩ := e
  obtain ⟨k', cy', ct', a', b', v'⟩ := b
  have h1 := he.cy
  have h2 := he.ct
  have h3 := hb.cy
  have h4 := hb.ct
  simp only at h1 h2 h3 h4
  clear he hb
  unfold Ev.val
  simp only
  have hB := fun o o' => ((Below.refl w.heap.size w).alloc (Nat.le_refl _) o).alloc (by simp) o'
  by_cases q1 : ct < ct'
  · have hr : Stp ⟨k', cy', ct', a', b', v'⟩ ⟨k, cy, ct, a, bb, v⟩ = (0, 0, false) := by unfold Stp; rw [if_pos (.inl q1)]
    rw [hr]
    clear hr
    go_enter Try.func68, Try.ntmps68
    go_wp2
    go_ret3
    exact mkRSt 0 0 rfl rfl rfl (hB _ _) (fun h => by cases h)
  · by_cases q2 : cy < cy'
    · have hr : Stp ⟨k', cy', ct', a', b', v'⟩ ⟨k, cy, ct, a, bb, v⟩ = (0, 0, false) := by unfold Stp; rw [if_pos (.inr q2)]
      rw [hr]
      clear hr
      have q1' : ct' ≤ ct := by omega
      clear q1
      go_enter Try.func68, Try.ntmps68
      go_wp2
      go_ret3
      exact mkRSt 0 0 rfl rfl rfl (hB _ _) (fun h => by cases h)
    · obtain ⟨s, rfl⟩ : ∃ s, ct = ct' + s := ⟨ct - ct', by omega⟩
      obtain ⟨g, rfl⟩ : ∃ g, cy = cy' + g := ⟨cy - cy', by omega⟩
      clear q1 q2
      have z1 : (ct' : Int) + s - ct' = s := by omega
      have z2 : (cy' : Int) + g - cy' = g := by omega
      have hE : Stp ⟨k', cy', ct', a', b', v'⟩ ⟨k, cy' + g, ct' + s, a, bb, v⟩ = if 4294967295 < s ∨ (s < g ∧ 2147483648 ≤ g - s) ∨ (g < s ∧ 2147483648 < s - g) then (0, 0, false) else (s, (g : Int) - s, true) := by
        unfold Stp
        rw [if_neg (by simp only; omega)]
        simp only [Nat.add_sub_cancel_left]
      rw [hE]
      clear hE
      by_cases r1 : 4294967295 < s
      · rw [if_pos (.inl r1)]
        have r1' : (4294967295 : Int) < s := by omega
        clear r1
        go_enter Try.func68, Try.ntmps68
        go_wp2
        go_ret3
        exact mkRSt 0 0 rfl rfl rfl (hB _ _) (fun h => by cases h)
      · have r1' : (s : Int) ≤ 4294967295 := by omega
        by_cases g1 : s ≤ g
        · have g1' : (s : Int) ≤ g := by omega
          by_cases r2 : 2147483648 ≤ g - s
          · rw [if_pos (.inr (.inl ⟨by omega, r2⟩))]
            have r2' : (2147483648 : Int) ≤ g - s := by omega
            have d2 : decide ((g : Int) - s < 2147483648) = false := by simp; omega
            clear r1
            go_enter Try.func68, Try.ntmps68
            go_wp2
            go_ret3
            exact mkRSt s ((2 * (g - s)) % 18446744073709551616) rfl (by first | omega | (rw [IntKind.wrap_u64]; omega)) (by first | rfl | simpa using r2') (hB _ _) (fun h => by cases h)
          · rw [if_neg (by omega)]
            have r2' : (g : Int) - s < 2147483648 := by omega
            clear r1
            go_enter Try.func68, Try.ntmps68
            go_wp2
            go_ret3
            exact mkRSt s (2 * (g - s)) rfl (by omega) (by first | rfl | simpa using r2') (hB _ _) (fun _ => ⟨rfl, by show _ = foldV ((g : Int) - s); unfold foldV; rw [if_pos (by omega)]; omega⟩)
        · have g1' : (g : Int) < s := by omega
          by_cases r2 : 2147483648 < s - g
          · rw [if_pos (.inr (.inr ⟨by omega, r2⟩))]
            have r2' : (2147483648 : Int) < s - g := by omega
            have d2 : decide ((s : Int) - g ≤ 2147483648) = false := by simp; omega
            clear r1
            go_enter Try.func68, Try.ntmps68
            go_wp2
            go_ret3
            exact mkRSt s (2 * (s - g) - 1) rfl (by omega) (by first | rfl | simpa using r2') (hB _ _) (fun h => by cases h)
          · rw [if_neg (by omega)]
            have r2' : (s : Int) - g ≤ 2147483648 := by omega
            clear r1
            go_enter Try.func68, Try.ntmps68
            go_wp2
            go_ret3
            exact mkRSt s (2 * (s - g) - 1) rfl (by omega) (by first | rfl | simpa using r2') (hB _ _) (fun _ => ⟨rfl, by show _ = foldV ((g : Int) - s); unfold foldV; rw [if_neg (by omega)]; omega⟩)
end Go.Proofs.Ythdenjokedmcfaa
