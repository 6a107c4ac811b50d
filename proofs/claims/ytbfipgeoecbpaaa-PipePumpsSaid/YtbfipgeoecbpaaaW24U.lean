/- Contract of pipe.Pump: a ring's bytes into a pipe. No condition but those that it names. -/
import Derived.Test.YtbfipgeoecbpaaaRgE
import Derived.Test.YtbfipgeoecbpaaaW24N
namespace Go.Proofs.Ytbfipgeoecbpaaa
open Go.Conc Go.RowKit
set_option linter.unusedVariables false
set_option linter.unusedSimpArgs false
set_option maxRecDepth 20000
/-- How many bytes a pump moves. -/
def pumpN (room np : Nat) (closed : Bool) (n : Int) (used : Nat) : Nat := if closed = true ∨ room ≤ np ∨ n < 1 then 0 else min n.toNat used
def PumpPost (w : World) (br cap room : Nat) (pol : Int) (L : List (List UInt8)) (bg : Bool) (lo : Nat) (F : Nat → Prop) (bp c : Nat) (l : List ByteArray) (closed : Bool) (k : Nat) (x : Ending) (w' : World) : Prop :=
  x = .returned (.int .i64 k) ∧ RingL w' br cap pol (drn L k bg).1 (drn L k bg).2 lo F ∧ IsPipe w' bp c room (if k = 0 then l else l ++ [⟨(L.flatten.take k).toArray⟩]) closed ∧ Only (fun j => j = c ∨ F j) w w'
theorem pump_zero {w : World} {br cap room : Nat} {pol : Int} {L : List (List UInt8)} {bg : Bool} {lo : Nat} {F : Nat → Prop} {bp c : Nat} {l : List ByteArray} {closed : Bool} (h : RingL w br cap pol L bg lo F) (hp : IsPipe w bp c room l closed) (x : Ending) (m : Nat) (hx : x = .returned (.int .i64 0)) :
    PumpPost w br cap room pol L bg lo F bp c l closed 0 x (w.drewN m) := by
  refine ⟨hx, ?_, ?_, Only.ofDrewN _ w m⟩
  · rw [drn_zero]
    exact h.below (kept_drewN w m)
  · rw [if_pos rfl]
    exact hp.only (Only.ofDrewN (fun _ => False) w m) (fun h => h) (fun h => h)
set_option maxHeartbeats 2000000 in
theorem pump_any {w : World} {br cap room : Nat} {pol : Int} {L : List (List UInt8)} {bg : Bool} {lo : Nat} {F : Nat → Prop} {bp c : Nat} {l : List ByteArray} {closed : Bool} (h : RingL w br cap pol L bg lo F) (hp : IsPipe w bp c room l closed) (hlr : l.length ≤ room) (hr : room ≤ 64) (hb : ¬ F bp) (hc : ¬ F c) (n : Int) (hn0 : -9223372036854775808 ≤ n) (hn1 : n ≤ 9223372036854775807) :
    Calls Try.prog 41 #[.pointer (some ⟨br, 0, none⟩), .pointer (some ⟨bp, 0, none⟩), .int .i64 n] w (PumpPost w br cap room pol L bg lo F bp c l closed (pumpN room l.length closed n L.flatten.length)) := by
  have h0 : w.cell? ⟨bp, 0, none⟩ = some (.chan (some c)) := by rw [cell_blk hp.blk]; rfl
  have h1 : w.cell? ⟨bp, 1, none⟩ = some (.bool closed) := by rw [cell_blk hp.blk]; rfl
  obtain ⟨s, r, h2⟩ := hp.ch
  have hlen := fun (a : Nat) ty => run_len_chan (P := Try.prog) (w := w.drewN a) 120 ty Try.underlying120 h2
  rw [chs_size] at hlen
  have hcap := fun (a : Nat) ty => run_cap_chan (P := Try.prog) (w := w.drewN a) 120 ty Try.underlying120 h2
  simp only [goInt] at hlen hcap
  have hs : ∀ a, Calls Try.prog 26 #[.pointer (some ⟨br, 0, none⟩)] (w.drewN a) (fun e w'' => e = .returned (.int .i64 L.flatten.length) ∧ ∃ m, w'' = w.drewN m) := fun a => (qused_any (h.below (kept_drewN w a))).mono fun e w' h => ⟨h.1, a, h.2.symm⟩
  obtain ⟨u, hu⟩ : ∃ u, u = L.flatten.length := ⟨_, rfl⟩
  rw [← hu] at hs ⊢
  have HU := Lib.hid hu
  clear hu
  unfold pumpN
  cases closed with
  | true =>
    rw [if_pos (.inl rfl)]
    go_enter Try.func41, Try.ntmps41
    go_upto_region 1 with fail
    go_quiet (fail)
    go_wp2_with fail
    go_ret
    exact pump_zero h hp _ _ rfl
  | false =>
    by_cases hf : room ≤ l.length
    · rw [if_pos (.inr (.inl hf))]
      have ec : (((l.length : Nat) : Int) == ((room : Nat) : Int)) = true := by simp; omega
      go_enter Try.func41, Try.ntmps41
      go_upto_region 1 with fail
      go_quiet (fail)
      go_wp2_with fail
      go_ret
      exact pump_zero h hp _ _ rfl
    · have ec : (((l.length : Nat) : Int) == ((room : Nat) : Int)) = false := by simp; omega
      by_cases n0 : n < 1
      · rw [if_pos (.inr (.inr n0))]
        have d0 : decide (n < 1) = true := by simp; omega
        go_enter Try.func41, Try.ntmps41
        go_upto_region 1 with fail
        go_quiet (fail)
        go_wp2_with fail
        go_ret
        exact pump_zero h hp _ _ rfl
      · have d0 : decide (n < 1) = false := by simp; omega
        rw [if_neg (by intro x; rcases x with x | x | x; cases x; exact hf x; exact n0 x)]
        by_cases hu0 : u = 0
        · have eu : ((u : Int) == 0) = true := by simp; omega
          rw [show min n.toNat u = 0 by omega]
          go_enter Try.func41, Try.ntmps41
          go_upto_region 1 with fail
          go_quiet (exact hs _)
          go_wp2_with fail
          go_ret
          exact pump_zero h hp _ _ rfl
        · have eu : ((u : Int) == 0) = false := by simp; omega
          obtain ⟨k, hk⟩ : ∃ k, k = min n.toNat u := ⟨_, rfl⟩
          have hk1 : 1 ≤ k := by omega
          have hdr := fun a => qdrain_any (h.below (kept_drewN w a)) n hn0 hn1
          rw [← HU.out, ← hk] at hdr
          rw [← hk]
          have HK := Lib.hid hk
          have hku : k ≤ u := by omega
          clear hk
          go_enter Try.func41, Try.ntmps41
          go_upto_region 1 with fail
          go_quiet (exact hs _)
          clear hs hlen hcap eu ec d0 h0 h1 h2
          have hp1 := fun a => hp.only (Only.ofDrewN (fun _ => False) w a) (fun h => h) (fun h => h)
          go_upto_region 4 with ((go_at_call 25; (refine (hdr _).mono ?_); rintro x w2 ⟨rfl, hL2, on2⟩))
          have on3 := (Only.ofDrewN (fun j => j = c ∨ F j) w _).trans (on2.mono fun j _ hj => show j = c ∨ F j from .inr hj) fun _ _ x => x
          have hp2 := (hp1 _).only on2 hb hc
          clear hdr hp1 on2
          go_upto_region 5 with ((go_at_call 53; (refine (offer_room hp2 (by omega) _).mono ?_); rintro x w3 ⟨rfl, hp3, on4⟩))
          have hL3 := hL2.only on4 fun j hj e => hc (by rw [← show j = c from e]; exact hj)
          have on5 := on3.trans (on4.mono fun j _ hj => show j = c ∨ F j from .inl hj) fun _ _ x => x
          have hsz : (⟨(L.flatten.take k).toArray⟩ : ByteArray).size = k := by
            show (L.flatten.take k).toArray.size = k
            rw [List.size_toArray, List.length_take]
            have := HU.out
            omega
          clear hL2 on3 on4 hp2
          go_wp2_with fail
          go_ret
          exact ⟨rfl, hL3, (by rw [if_neg (by omega)]; exact hp3), on5⟩
end Go.Proofs.Ytbfipgeoecbpaaa
