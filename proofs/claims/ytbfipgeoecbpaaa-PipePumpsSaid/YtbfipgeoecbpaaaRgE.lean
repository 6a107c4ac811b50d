/- Contracts of package ring by frames (the newest is lost): New, Put, Drain, Used, Held, Lost. No condition but those that each names. -/
import Derived.Test.YtbfipgeoecbpaaaRgD
namespace Go.Proofs.Ytbfipgeoecbpaaa
open Go.RowKit
set_option linter.unusedVariables false
set_option linter.unusedSimpArgs false
set_option maxRecDepth 20000
theorem drn_bgn : ∀ (L : List (List UInt8)) (n : Nat) (bg : Bool), (L = [] → bg = false) → (drn L n bg).1 = [] → (drn L n bg).2 = false
  | L, 0, bg, h0, h => by rw [drn_zero] at *; exact h0 h
  | [], n + 1, bg, h0, h => h0 rfl
  | x :: l, n + 1, bg, h0, h => by
    by_cases h1 : n + 1 < x.length
    · rw [drn_lt _ _ (by omega) h1] at h
      cases h
    · rw [drn_ge _ _ (by omega) (by omega)] at h ⊢
      exact drn_bgn l _ false (fun _ => rfl) h
theorem grow_lt {F : Nat → Prop} {w w' : World} (hf : ∀ k, F k → k < w.heap.size) (hs : w.heap.size ≤ w'.heap.size) : ∀ k, grow F w w' k → k < w'.heap.size := by
  rintro k (h | h)
  · exact Nat.lt_of_lt_of_le (hf k h) hs
  · exact h.2
section
variable {w : World} {b cap : Nat} {pol : Int} {L : List (List UInt8)} {bg : Bool} {lo : Nat} {F : Nat → Prop}
theorem RingL.len (h : RingL w b cap pol L bg lo F) : L.flatten.length ≤ cap ∧ 179 ≤ cap ∧ cap ≤ 1048576 ∧ lo ≤ 1000000000000 ∧ L.length ≤ L.flatten.length := by
  obtain ⟨X, R, st, rfl, h2, h3, rfl, h5, h6⟩ := h.st
  have e : L.flatten.length = X.used := by rw [← flat_len]; exact st.sum
  have := st.len
  rw [List.length_map] at this
  exact ⟨e ▸ st.used, st.cap.1, st.cap.2, st.lo, e ▸ this⟩
theorem qused_any (h : RingL w b cap pol L bg lo F) : Calls Try.prog 26 #[.pointer (some ⟨b, 0, none⟩)] w fun x w' => x = .returned (.int .i64 L.flatten.length) ∧ w = w' := by
  obtain ⟨X, R, st, h1, h2, h3, h4, h5, h6⟩ := h.st
  have e : L.flatten.length = X.used := by rw [← flat_len]; exact st.sum
  rw [e]
  exact rused_any st
theorem qheld_any (h : RingL w b cap pol L bg lo F) : Calls Try.prog 22 #[.pointer (some ⟨b, 0, none⟩)] w fun x w' => x = .returned (.int .i64 L.length) ∧ w = w' := by
  obtain ⟨X, R, st, h1, h2, h3, h4, h5, h6⟩ := h.st
  have := rheld_any st
  rw [List.length_map] at this
  exact this
theorem qlost_any (h : RingL w b cap pol L bg lo F) : Calls Try.prog 23 #[.pointer (some ⟨b, 0, none⟩)] w fun x w' => x = .returned (.int .u64 lo) ∧ w = w' := by
  obtain ⟨X, R, st, h1, h2, h3, rfl, h5, h6⟩ := h.st
  exact rlost_any st
/-- What a Put into a ring that loses the newest does: the error, the frames, how many more are lost. -/
def putE (cap : Nat) (L : List (List UInt8)) (s : List UInt8) : Int := if s.length < 1 ∨ 179 < s.length then 1 else if cap < L.flatten.length + s.length then 7 else 0
def putL (cap : Nat) (L : List (List UInt8)) (s : List UInt8) : List (List UInt8) := if putE cap L s = 0 then L ++ [s] else L
def putN (cap : Nat) (L : List (List UInt8)) (s : List UInt8) : Nat := if putE cap L s = 7 then 1 else 0
def PutPost (w : World) (b cap : Nat) (L : List (List UInt8)) (bg : Bool) (lo : Nat) (F : Nat → Prop) (s : List UInt8) (x : Ending) (w' : World) : Prop :=
  x = .returned (.int .i64 (putE cap L s)) ∧ RingL w' b cap 0 (putL cap L s) bg (lo + putN cap L s) (grow F w w') ∧ Only F w w'
theorem qput_any (h : RingL w b cap 0 L bg lo F) (s : ByteArray) (hlo : lo + 1 ≤ 1000000000000) : Calls Try.prog 40 #[.pointer (some ⟨b, 0, none⟩), .string s] w (PutPost w b cap L bg lo F s.data.toList) := by
  obtain ⟨X, R, st, h1, h2, h3, h4, h5, h6⟩ := h.st
  have e : L.flatten.length = X.used := by rw [← flat_len]; exact st.sum
  have es : s.data.toList.length = s.size := by simp
  by_cases hb : s.size < 1 ∨ 179 < s.size
  · have hE : putE cap L s.data.toList = 1 := by unfold putE; rw [es, if_pos hb]
    refine (rput_bad b w s hb).mono ?_
    rintro x w' ⟨rfl, rfl⟩
    refine ⟨by rw [hE], ?_, Only.refl _ _⟩
    unfold putL putN
    rw [hE, if_neg (by decide), if_neg (by decide)]
    exact h.mono (fun k hk => .inl hk) (grow_lt h.foot (Nat.le_refl _))
  · by_cases hr : X.used + s.size ≤ X.cap
    · have hE : putE cap L s.data.toList = 0 := by unfold putE; rw [es, if_neg hb, if_neg (by omega)]
      refine (rput_room st s (by omega) (by omega) hr).mono ?_
      rintro x w' ⟨rfl, X', R', k1, k2, k3, k4, k5, k6, k7, k8, k9, st', on'⟩
      refine ⟨by rw [hE], ?_, on'.mono fun k _ hk => h6 k hk⟩
      unfold putL putN
      rw [hE, if_pos rfl, if_neg (by decide)]
      refine ⟨⟨X', R', ?_, k2.trans h1, k3.trans h2, k6.trans h3, k7.trans h4, ?_, ?_⟩, grow_lt h.foot on'.size, ?_⟩
      · rw [List.map_append]
        show RgSt w' b X' R' (_ ++ [s.data.toList.length])
        rw [es]
        exact st'
      · rw [k2, k4, k5, k9, List.flatten_append, h5]
        simp
      · rintro k (hk | hk | hk)
        · exact .inl (h6 k (.inl hk))
        · exact .inl (h6 k (.inr (.inl (hk.trans k1))))
        · rcases k8 with h8 | ⟨j, h8, h9⟩
          · exact .inl (h6 k (.inr (.inr (h8 ▸ hk))))
          · rw [hk] at h8
            obtain rfl := Option.some.inj h8
            exact .inr ⟨h9, st'.sz.lt hk⟩
      · intro hL
        cases L <;> cases hL
    · have hE : putE cap L s.data.toList = 7 := by unfold putE; rw [es, if_neg hb, if_pos (by omega)]
      refine (rput_full st h2 s (by omega) (by omega) (by omega) (by omega)).mono ?_
      rintro x w' ⟨rfl, st', on'⟩
      refine ⟨by rw [hE], ?_, on'.mono fun k _ hk => h6 k (.inl hk)⟩
      unfold putL putN
      rw [hE, if_neg (by decide), if_pos rfl]
      exact ⟨⟨_, R, st', h1, h2, h3, by rw [← h4], h5, fun k hk => .inl (h6 k hk)⟩, grow_lt h.foot on'.size, h.bgn⟩
/-- Drain by frames. -/
def DrainPost (w : World) (b cap : Nat) (pol : Int) (L : List (List UInt8)) (bg : Bool) (lo : Nat) (F : Nat → Prop) (n : Nat) (x : Ending) (w' : World) : Prop :=
  x = .returned (.string ⟨(L.flatten.take n).toArray⟩) ∧ RingL w' b cap pol (drn L n bg).1 (drn L n bg).2 lo F ∧ Only F w w'
theorem qdrain_any (h : RingL w b cap pol L bg lo F) (m : Int) (hm0 : -9223372036854775808 ≤ m) (hm1 : m ≤ 9223372036854775807) :
    Calls Try.prog 25 #[.pointer (some ⟨b, 0, none⟩), .int .i64 m] w (DrainPost w b cap pol L bg lo F (min m.toNat L.flatten.length)) := by
  obtain ⟨X, R, st, h1, h2, h3, h4, h5, h6⟩ := h.st
  have e : L.flatten.length = X.used := by rw [← flat_len]; exact st.sum
  refine (rdrain_any st m hm0 hm1).mono ?_
  rintro x w' ⟨rfl, ⟨v', st', hv⟩, on'⟩
  rw [← e] at st' ⊢
  obtain ⟨n, hn⟩ : ∃ n, n = min m.toNat L.flatten.length := ⟨_, rfl⟩
  rw [← hn] at st' ⊢
  have hnu : n ≤ X.used := by omega
  have hfin := drn_fin L n bg
  rw [h3, hfin] at st'
  refine ⟨?_, ⟨⟨_, R, st', h1, h2, rfl, h4, ?_, ?_⟩, fun k hk => Nat.lt_of_lt_of_le (h.foot k hk) on'.size, drn_bgn L n bg h.bgn⟩, on'.mono fun k _ hk => h6 k hk⟩
  · rw [cont_take R hnu, h5]
  · show cont R X.cap ((X.hd + n) % X.cap) (L.flatten.length - n) = _
    rw [drn_flat, e, cont_drop R hnu, h5]
  · rintro k (hk | hk | hk)
    · exact h6 k (.inl hk)
    · exact h6 k (.inr (.inl hk))
    · exact h6 k (.inr (.inr (hv ▸ hk)))
end
/-- A new ring. -/
def NewFoot (w : World) (k : Nat) : Prop := k = w.heap.size ∨ k = w.heap.size + 1
theorem qnew_any (n : Nat) (p : Int) (hp : p = 0 ∨ p = 1) (h1 : 179 ≤ n) (h2 : n ≤ 1048576) (w : World) :
    Calls Try.prog 12 #[.int .i64 n, .int .i64 p] w fun x w' => x = .returned (.tuple #[.pointer (some ⟨w.heap.size + 1, 0, none⟩), .int .i64 0]) ∧ RingL w' (w.heap.size + 1) n p [] false 0 (NewFoot w) ∧ Below w.heap.size w w' := by
  refine (rnew_any n p hp h1 h2 w).mono ?_
  rintro x w' ⟨rfl, st, hB⟩
  refine ⟨rfl, ⟨⟨_, _, st, rfl, rfl, rfl, rfl, rfl, ?_⟩, ?_, fun _ => rfl⟩, hB⟩
  · rintro k (hk | hk | hk)
    · exact .inr hk
    · exact .inl hk
    · cases hk
  · rintro k (rfl | rfl)
    · exact st.room.lt
    · exact blk_lt st.me
end Go.Proofs.Ytbfipgeoecbpaaa
