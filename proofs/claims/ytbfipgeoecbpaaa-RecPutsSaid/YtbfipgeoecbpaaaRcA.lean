/- law23.awake, and the recorder between the calls of a law. No condition. -/
import Derived.Test.YtbfipgeoecbpaaaRcC
import Derived.Deep.LoopGhost
namespace Go.Proofs.Ytbfipgeoecbpaaa
open Go.RowKit
set_option linter.unusedVariables false
set_option linter.unusedSimpArgs false
set_option maxRecDepth 100000
def eHalt : Ev := ⟨22, 0, 0, 0, 0, 0⟩
theorem eHalt_wf : eHalt.Wf := ⟨by decide, by decide, by decide, by decide, by decide, by decide, by decide⟩
def awR : Nat → Rcd
  | 0 => rcd0
  | n + 1 => (awR n).put 20 eHalt
theorem aw_err : ∀ k, k < 10 → (awR k).err eHalt = 0 := by decide +kernel
theorem aw_1 : (awR 10).fr.length = 1 := by kernel_rfl
theorem aw_2 : (awR 10).op.length = 5 := by kernel_rfl
theorem aw_3 : (awR 10).err (closeEv 0 0) = 0 := by kernel_rfl
theorem aw_4 : ((awR 10).close 20 0 0).fr.length = 3 := by kernel_rfl
theorem aw_5 : ((awR 10).close 20 0 0).err eHalt = 2 := by kernel_rfl
theorem aw_cnt : ∀ k, (awR k).cnt ≤ k
  | 0 => Nat.le_refl _
  | k + 1 => by
    have := aw_cnt k
    have := cnt_put 20 (awR k) eHalt
    show ((awR k).put 20 eHalt).cnt ≤ _
    omega
/-- A recorder into a great ring, made behind w. -/
structure GSt (w wr : World) (x rb room : Nat) (R : Rcd) : Prop where
  g : ∃ O, GRec wr x rb room R O ∧ ∀ k, O k → w.heap.size ≤ k
  bel : Below w.heap.size w wr
section
variable {w wr w2 : World} {x rb room : Nat} {R : Rcd}
theorem GSt.below (h : GSt w wr x rb room R) (k : Below wr.heap.size wr w2) : GSt w w2 x rb room R := by
  obtain ⟨O, g, hO⟩ := h.g
  exact ⟨⟨O, g.below k, hO⟩, h.bel.trans (k.mono h.bel.size)⟩
theorem GSt.step {R' : Rcd} {O : Nat → Prop} (hB : Below w.heap.size w wr) (hO : ∀ k, O k → w.heap.size ≤ k) (g : GRec w2 x rb room R' (grow O wr w2)) (on : Only O wr w2) : GSt w w2 x rb room R' := by
  refine ⟨⟨_, g, ?_⟩, hB.trans (on.below hB.size fun i hi q => by have := hO i q; omega)⟩
  rintro k (q | q)
  · exact hO k q
  · exact Nat.le_trans hB.size q.1
theorem zput_any (h : GSt w wr x rb room R) (hn : R.cnt ≤ 5000) (e : Ev) (he : e.Wf) : Calls Try.prog 17 #[.pointer (some ⟨x, 0, none⟩), e.val] wr fun a w' => a = .returned (.int .i64 (R.err e)) ∧ GSt w w' x rb room (R.put room e) := by
  obtain ⟨O, g, hO⟩ := h.g
  refine (gput_any g (by have := cnt_le R; omega) e he).mono ?_
  rintro a w1 ⟨rfl, g1, on⟩
  exact ⟨rfl, GSt.step h.bel hO g1 on⟩
theorem zflush_any (h : GSt w wr x rb room R) (hn : R.cnt ≤ 5000) : Calls Try.prog 15 #[.pointer (some ⟨x, 0, none⟩)] wr fun a w' => a = .returned (.tuple #[]) ∧ GSt w w' x rb room R.flush := by
  obtain ⟨O, g, hO⟩ := h.g
  refine (gflush_any g (by have := cnt_le R; omega)).mono ?_
  rintro a w1 ⟨rfl, g1, on⟩
  exact ⟨rfl, GSt.step h.bel hO g1 on⟩
theorem zclose_any (h : GSt w wr x rb room R) (hn : R.cnt ≤ 4000) (cy ct : Nat) (h1 : cy < 18446744073709551616) (h2 : ct < 18446744073709551616) : Calls Try.prog 18 #[.pointer (some ⟨x, 0, none⟩), .int .u64 cy, .int .u64 ct] wr fun a w' => a = .returned (.int .i64 (R.err (closeEv cy ct))) ∧ GSt w w' x rb room (R.close room cy ct) := by
  obtain ⟨O, g, hO⟩ := h.g
  refine (gclose_any g (by have := cnt_le R; omega) cy ct h1 h2).mono ?_
  rintro a w1 ⟨rfl, g1, on⟩
  exact ⟨rfl, GSt.step h.bel hO g1 on⟩
theorem zframes_any (h : GSt w wr x rb room R) : Calls Try.prog 19 #[.pointer (some ⟨x, 0, none⟩)] wr fun e w' => e = .returned (.int .i64 R.fr.length) ∧ wr = w' := by
  obtain ⟨O, g, hO⟩ := h.g
  exact gframes_any g
theorem zopen_any (h : GSt w wr x rb room R) : Calls Try.prog 20 #[.pointer (some ⟨x, 0, none⟩)] wr fun e w' => e = .returned (.int .i64 R.op.length) ∧ wr = w' := by
  obtain ⟨O, g, hO⟩ := h.g
  exact gopen_any g
theorem zheld_any (h : GSt w wr x rb room R) : Calls Try.prog 22 #[.pointer (some ⟨rb, 0, none⟩)] wr fun e w' => e = .returned (.int .i64 R.fr.length) ∧ wr = w' := by
  obtain ⟨O, g, hO⟩ := h.g
  exact gheld_any g
end
theorem fresh_st (room : Nat) (h1 : 20 ≤ room) (h2 : room ≤ 120) (w : World) : Calls Try.prog 21 #[.int .i64 room] w fun a w' => ∃ x rb, a = .returned (.tuple #[.pointer (some ⟨x, 0, none⟩), .pointer (some ⟨rb, 0, none⟩)]) ∧ GSt w w' x rb room rcd0 := by
  refine (fresh_any room h1 h2 w).mono ?_
  rintro a w1 ⟨x, rb, O, rfl, g, hO, hk⟩
  exact ⟨x, rb, rfl, ⟨⟨O, g, hO⟩, hk⟩⟩
def AwR (w : World) (x rb : Nat) (g : Nat) (i : Value) (wr : World) : Prop :=
  ∃ k : Nat, i = .int .i64 k ∧ k ≤ 10 ∧ GSt w wr x rb 20 (awR k) ∧ 10 - k ≤ g
set_option maxHeartbeats 2000000 in
theorem awake23 (w : World) : Calls Try.prog 16 #[] w fun e w' => e = .returned (.bool true) ∧ Below w.heap.size w w' := by
  go_enter Try.func16, Try.ntmps16
  go_wp2_with fail
  refine (fresh_st 20 (by decide) (by decide) _).mono ?_
  rintro a w1 ⟨x, rb, rfl, st⟩
  go_wp2_with fail
  go_loopg [12] (10) (fun g i wr => AwR w x rb g i wr)
  case atStart => exact ⟨0, rfl, by decide, st, by decide⟩
  case round =>
    clear st
    obtain ⟨k, rfl, hk, st, hg⟩ := hrel
    by_cases hlt : k < 10
    · have hlt' : (k : Int) < 10 := by omega
      have hput := zput_any st (by have := aw_cnt k; omega) eHalt eHalt_wf
      rw [aw_err k hlt] at hput
      unfold Ev.val eHalt at hput
      dsimp only at hput
      go_wp2_with ((go_at_call 17; (refine hput.mono ?_); rintro a w2 ⟨rfl, st2⟩))
      obtain ⟨gg, rfl⟩ : ∃ gg, gk = gg + 1 := ⟨gk - 1, by omega⟩
      go_roundg gg
      case measure => omega
      case rel => exact ⟨k + 1, by go_num, by omega, st2, by omega⟩
    · have hlt' : ¬ (k : Int) < 10 := by omega
      obtain rfl : k = 10 := by omega
      have hf := zframes_any st
      have ho := zopen_any st
      have hc := zclose_any st (by have := aw_cnt 10; omega) 0 0 (by decide) (by decide)
      rw [aw_1] at hf
      rw [aw_2] at ho
      rw [aw_3] at hc
      go_upto_region 8 with (first | (go_at_call 19; (with_reducible refine hf.mono ?_); rintro a w2 ⟨rfl, rfl⟩) | (go_at_call 20; (with_reducible refine ho.mono ?_); rintro a w2 ⟨rfl, rfl⟩))
      clear hf ho
      go_upto_region 9 with ((go_at_call 18; (refine hc.mono ?_); rintro a w2 ⟨rfl, st2⟩))
      clear hc st
      go_wp2_with fail
      refine (make_any _).mono ?_
      rintro e w3 ⟨rfl, hT, hk2⟩
      have st3 := st2.below hk2
      clear st2 hk2
      go_wp2_with fail
      refine (rcnew_bad _ _ _ 19 (by decide)).mono ?_
      rintro e w4 ⟨rfl, rfl⟩
      have hf := zframes_any st3
      have hh := zheld_any st3
      have hp := zput_any st3 (by have := aw_cnt 10; have := cnt_close 20 (awR 10) 0 0; omega) eHalt eHalt_wf
      rw [aw_4] at hf hh
      rw [aw_5] at hp
      unfold Ev.val eHalt at hp
      dsimp only at hp
      go_wp2_with (first | (go_at_call 19; (with_reducible refine hf.mono ?_); rintro a w2 ⟨rfl, rfl⟩) | (go_at_call 22; (with_reducible refine hh.mono ?_); rintro a w2 ⟨rfl, rfl⟩) | (go_at_call 17; (refine hp.mono ?_); rintro a w2 ⟨rfl, st4⟩))
      go_ret
      exact ⟨rfl, st4.bel⟩
end Go.Proofs.Ytbfipgeoecbpaaa
