/- Contract of the reference of layer 6: Same, at two slices that read alike. No condition but those that it names. -/
import Derived.Test.YthdenjokedmcfaaCoilB
namespace Go.Proofs.Ythdenjokedmcfaa
open Go.RowKit
set_option maxRecDepth 20000
set_option maxHeartbeats 4000000 in
theorem rsame_eq (w : World) (oa ob : Option Addr) (len cap cap' : Nat) (z : Nat → Ev) (h1 : SlArgN w oa len cap 6 (fun i j => (z i).f j)) (h2 : SlArgN w ob len cap' 6 (fun i j => (z i).f j)) (hlen : len ≤ 1000000) :
    Calls Try.prog 41 #[.slice oa len cap, .slice ob len cap'] w fun x w' => x = .returned (.bool true) ∧ ∃ n, w.drewN n = w' := by
  go_enter Try.func41, Try.ntmps41
  go_wp2_with fail
  go_loopw [5] (fun x wr => ∃ (i n : Nat), x = .int .i64 i ∧ i ≤ len ∧ wr = w.drewN n) (fun x _ => len - (intOf x).toNat)
  case atStart => exact ⟨0, 0, rfl, Nat.zero_le _, rfl⟩
  case round =>
    obtain ⟨i, n, rfl, hi, rfl⟩ := hrel
    by_cases hlt : i < len
    · obtain ⟨g, off, rfl, hg, a0, a1, a2, a3, a4, a5⟩ := six h1 (Below.refl w.heap.size w) (Nat.le_refl _) hlt
      obtain ⟨g', off', rfl, hg', b0, b1, b2, b3, b4, b5⟩ := six h2 (Below.refl w.heap.size w) (Nat.le_refl _) hlt
      have hlt' : (i : Int) < len := by omega
      generalize z i = e at a0 a1 a2 a3 a4 a5 b0 b1 b2 b3 b4 b5
      obtain ⟨k, cy, ct, a, b, v⟩ := e
      simp only at a0 a1 a2 a3 a4 a5 b0 b1 b2 b3 b4 b5
      go_wp2_with fail
      go_quiet (fail)
      go_wp2_with fail
      go_roundw
      case rel => exact ⟨i + 1, n + nq, by go_num, by omega, by first | rfl | exact (World.drewN_drewN _ _ _) | simp⟩
      case measure => simp [intOf]; omega
    · obtain rfl : i = len := by omega
      go_wp2_with fail
      go_ret
      exact ⟨rfl, n, rfl⟩
end Go.Proofs.Ythdenjokedmcfaa
