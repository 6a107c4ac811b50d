/- Contracts of package ring: Put where it is refused, Held, Lost, Drain. No condition but those that each names. -/
import Derived.Test.YtbfipgeoecbpaaaRgB
import Derived.Test.YtbfipgeoecbpaaaRgP
namespace Go.Proofs.Ytbfipgeoecbpaaa
open Go.RowKit
set_option linter.unusedVariables false
set_option linter.unusedSimpArgs false
set_option maxRecDepth 20000
theorem rheld_any {w : World} {b : Nat} {X : Rg} {R : Nat → UInt8} {l : List Nat} (h : RgSt w b X R l) : Calls Try.prog 22 #[.pointer (some ⟨b, 0, none⟩)] w fun x w' => x = .returned (.int .i64 l.length) ∧ w = w' := by
  obtain ⟨y0, y1, y2, y3, y4, y5, y6⟩ := h.cells
  obtain ⟨ao, c, hv⟩ := h.sz.form
  rw [hv] at y3
  go_enter Try.func22, Try.ntmps22
  go_wp2_with fail
  go_ret
  exact ⟨rfl, rfl⟩
theorem rlost_any {w : World} {b : Nat} {X : Rg} {R : Nat → UInt8} {l : List Nat} (h : RgSt w b X R l) : Calls Try.prog 23 #[.pointer (some ⟨b, 0, none⟩)] w fun x w' => x = .returned (.int .u64 X.lo) ∧ w = w' := by
  obtain ⟨y0, y1, y2, y3, y4, y5, y6⟩ := h.cells
  go_enter Try.func23, Try.ntmps23
  go_wp2_with fail
  go_ret
  exact ⟨rfl, rfl⟩
theorem rput_bad (b : Nat) (w : World) (s : ByteArray) (h : s.size < 1 ∨ 179 < s.size) : Calls Try.prog 40 #[.pointer (some ⟨b, 0, none⟩), .string s] w fun x w' => x = .returned (.int .i64 1) ∧ w = w' := by
  by_cases h0 : s.size < 1
  · have h1 : (s.size : Int) < 1 := by omega
    clear h h0
    go_enter Try.func40, Try.ntmps40
    go_wp2_with fail
    go_step3
    go_wp2_with fail
    simp only [Exit.noGoto]
    go_ret
    exact ⟨rfl, rfl⟩
  · have h1 : ¬ (s.size : Int) < 1 := by omega
    have h2 : (179 : Int) < s.size := by omega
    clear h h0
    go_enter Try.func40, Try.ntmps40
    go_wp2_with fail
    go_step3
    go_wp2_with fail
    simp only [Exit.noGoto]
    go_ret
    exact ⟨rfl, rfl⟩
theorem RgSt.setLo {w : World} {b : Nat} {X : Rg} {R : Nat → UInt8} {l : List Nat} (h : RgSt w b X R l) (u : Nat) (hu : u ≤ 1000000000000) : RgSt (w.setCell ⟨b, 6, none⟩ (.int .u64 u)) b { X with lo := u } R l :=
  { h with
    me := (blk_setCell h.me (i := 6) _).trans (by simp [Rg.cells])
    room := h.room.keep (Below.heap_setCell _ _ _ _ h.b_rb.symm)
    sz := h.sz.keep fun g hg => Below.heap_setCell _ _ _ _ (fun e => h.sv_b (by rw [hg, show b = g from Eq.symm e]))
    lo := hu }
set_option maxHeartbeats 1000000 in
theorem rput_full {w : World} {b : Nat} {X : Rg} {R : Nat → UInt8} {l : List Nat} (h : RgSt w b X R l) (hp : X.pol = 0) (s : ByteArray) (h1 : 1 ≤ s.size) (h2 : s.size ≤ 179) (hr : X.cap < X.used + s.size) (hlo : X.lo + 1 ≤ 1000000000000) :
    Calls Try.prog 40 #[.pointer (some ⟨b, 0, none⟩), .string s] w fun x w' => x = .returned (.int .i64 7) ∧ RgSt w' b { X with lo := X.lo + 1 } R l ∧ Only (fun k => k = b) w w' := by
  have hcap := h.cap
  have hus := h.used
  have n1 : ¬ (s.size : Int) < 1 := by omega
  have n2 : ¬ (179 : Int) < s.size := by omega
  obtain ⟨y0, y1, y2, y3, y4, y5, y6⟩ := h.cells
  have hz := h.frozen 6
  have st2 := (h.below (kept_drewN w 1)).setLo (X.lo + 1) hlo
  have on2 := ((Only.refl (fun k => k = b) w).drewN 1).setCell ⟨b, 6, none⟩ (.int .u64 ((X.lo + 1 : Nat) : Int)) fun _ => rfl
  rw [hp] at y1
  go_enter Try.func40, Try.ntmps40
  go_wp2_with fail
  go_step3
  go_wp2_with fail
  go_step3
  go_wp2_with fail
  go_loopg [54] (0) (fun g u wr => wr = w)
  case atStart => rfl
  case round =>
    subst hrel
    obtain ⟨d, hd⟩ : ∃ d : Nat, d = X.cap - X.used := ⟨_, rfl⟩
    have hd2 : (X.cap : Int) - X.used = d := by omega
    have hd3 : (d : Int) < s.size := by omega
    go_upto_region 5 with fail
    go_region
    go_wp2_with fail
    simp only [Exit.noGoto]
    go_ret
    exact ⟨rfl, st2, on2⟩
end Go.Proofs.Ytbfipgeoecbpaaa
