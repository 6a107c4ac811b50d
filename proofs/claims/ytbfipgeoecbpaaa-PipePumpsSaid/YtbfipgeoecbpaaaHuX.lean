/- Plain laws of the hunt: more bytes behind change no answer but 'end'; pieces tell what all tells. No program in sight. No condition. -/
import Derived.Test.YtbfipgeoecbpaaaHu
namespace Go.Proofs.Ytbfipgeoecbpaaa
open Go.RowKit
set_option linter.unusedVariables false
set_option linter.unusedSimpArgs false
set_option maxRecDepth 20000
/-- X is a beginning of Y. -/
def Pre (X Y : ByteArray) : Prop := ∃ post, Y.data.toList = X.data.toList ++ post
theorem pre_app (X s : ByteArray) : Pre X (X ++ s) := ⟨s.data.toList, by simp⟩
section ext
variable {X Y : ByteArray}
theorem Pre.le (h : Pre X Y) : X.size ≤ Y.size := by
  obtain ⟨post, h⟩ := h
  have := congrArg List.length h
  rw [List.length_append] at this
  have h1 : X.data.toList.length = X.size := by simp
  have h2 : Y.data.toList.length = Y.size := by simp
  omega
theorem Pre.at (h : Pre X Y) {i : Nat} (h1 : i < X.size) (h2 : i < Y.size) : Y[i] = X[i] := by
  obtain ⟨post, h⟩ := h
  have hl : X.data.toList.length = X.size := by simp
  have e1 : Y.data.toList[i]? = some Y[i] := by
    rw [List.getElem?_eq_getElem (by simpa using h2)]
    rfl
  have e2 : X.data.toList[i]? = some X[i] := by
    rw [List.getElem?_eq_getElem (by simpa using h1)]
    rfl
  rw [h, List.getElem?_append_left (by omega), e2] at e1
  simpa using e1.symm
theorem Pre.drop (h : Pre X Y) {p : Nat} (hp : p ≤ X.size) : ∃ post, Y.data.toList.drop p = X.data.toList.drop p ++ post := by
  obtain ⟨post, h⟩ := h
  have hl : X.data.toList.length = X.size := by simp
  exact ⟨post, by rw [h, List.drop_append_of_le_length (by omega)]⟩
theorem Pre.ext (h : Pre X Y) {i j : Nat} (hj : j ≤ X.size) : Y.extract i j = X.extract i j := by
  have e : (Y.extract i j).data.toList = (X.extract i j).data.toList := by
    rw [ext_take, ext_take]
    rcases Nat.lt_or_ge i X.size with hi | hi
    · obtain ⟨post, e⟩ := h.drop (Nat.le_of_lt hi)
      have hl : (X.data.toList.drop i).length = X.size - i := by simp
      rw [e, List.take_append_of_le_length (by omega)]
    · rw [show j - i = 0 by omega, List.take_zero, List.take_zero]
  exact (ba_eq e).trans (ba_eq rfl).symm
theorem Pre.sgo (h : Pre X Y) (p : Nat) : ∀ (f k acc : Nat), (sgo X p f k acc).2.1 ≠ 2 → Proofs.Ytbfipgeoecbpaaa.sgo Y p f k acc = Proofs.Ytbfipgeoecbpaaa.sgo X p f k acc
  | 0, k, acc, _ => by unfold Proofs.Ytbfipgeoecbpaaa.sgo; rfl
  | f + 1, k, acc, hn => by
    have hz := h.le
    by_cases hk : p + k < X.size
    · have hk' : p + k < Y.size := by omega
      have e : Y[p + k]'hk' = X[p + k] := h.at hk hk'
      by_cases hb : 127 < X[p + k].toNat ∨ (k = 9 ∧ 1 < X[p + k].toNat)
      · rw [sgo_bad hk' rfl (by rw [e]; exact hb), sgo_bad hk rfl hb]
      · rw [sgo_go hk rfl hb] at hn ⊢
        rw [sgo_go hk' rfl (by rw [e]; exact hb), e]
        exact h.sgo p f (k + 1) _ hn
    · rw [sgo_end hk] at hn
      exact absurd rfl hn
theorem Pre.sget (h : Pre X Y) (p : Nat) (c : Int) (hn : (sget X p c).2.1 ≠ 2) : Proofs.Ytbfipgeoecbpaaa.sget Y p c = Proofs.Ytbfipgeoecbpaaa.sget X p c := by
  unfold Proofs.Ytbfipgeoecbpaaa.sget at hn ⊢
  split
  · rfl
  · rename_i hc
    rw [if_neg hc] at hn
    exact h.sgo p _ _ _ hn
theorem Pre.wrd (h : Pre X Y) (p : Nat) (hn : (wrd X p).2.1 ≠ 2) : Proofs.Ytbfipgeoecbpaaa.wrd Y p = Proofs.Ytbfipgeoecbpaaa.wrd X p := by
  have hs : (Proofs.Ytbfipgeoecbpaaa.sget X p 5).2.1 ≠ 2 := by
    intro e
    unfold Proofs.Ytbfipgeoecbpaaa.wrd at hn
    rw [if_neg (by rw [e]; omega)] at hn
    exact hn e
  unfold Proofs.Ytbfipgeoecbpaaa.wrd
  rw [h.sget p 5 hs]
theorem Pre.smE (h : Pre X Y) (p : Nat) (l : List UInt8) (hn : smE X p l ≠ 2) : Proofs.Ytbfipgeoecbpaaa.smE Y p l = Proofs.Ytbfipgeoecbpaaa.smE X p l := by
  have hw : (Proofs.Ytbfipgeoecbpaaa.wrd X p).2.1 ≠ 2 := by
    intro e
    unfold Proofs.Ytbfipgeoecbpaaa.smE at hn
    rw [if_neg (by rw [e]; omega)] at hn
    exact hn e
  unfold Proofs.Ytbfipgeoecbpaaa.smE
  rw [h.wrd p hw]
theorem agrL_ext : ∀ (t r post : List UInt8), agrL t r < r.length ∨ agrL t r = t.length → agrL t (r ++ post) = agrL t r
  | [], r, post, _ => by simp [agrL]
  | a :: t, [], post, h => by
    simp [agrL] at h
  | a :: t, b :: r, post, h => by
    rw [List.cons_append, agrL, agrL]
    rw [agrL] at h
    split
    · rename_i e
      rw [if_pos e] at h
      rw [agrL_ext t r post (by simpa using h)]
    · rfl
theorem Pre.agree (h : Pre X Y) {p : Nat} (hp : p ≤ X.size) (hn : agree X p ⟨mk.toArray⟩ = 22 ∨ agree X p ⟨mk.toArray⟩ ≠ X.size - p) : Proofs.Ytbfipgeoecbpaaa.agree Y p ⟨mk.toArray⟩ = Proofs.Ytbfipgeoecbpaaa.agree X p ⟨mk.toArray⟩ := by
  obtain ⟨post, e⟩ := h.drop hp
  unfold Proofs.Ytbfipgeoecbpaaa.agree at hn ⊢
  rw [e]
  refine agrL_ext _ _ _ ?_
  have hl : (X.data.toList.drop p).length = X.size - p := by simp
  have := agrL_le mk (X.data.toList.drop p)
  simp only at hn
  rcases hn with hn | hn
  · exact .inr hn
  · left
    simp only
    omega
/-- What isn't 'end' stays. -/
theorem Pre.fRd (h : Pre X Y) {p : Nat} (hp : p ≤ X.size) (hn : (fRd X p).1 ≠ 2) : Proofs.Ytbfipgeoecbpaaa.fRd Y p = Proofs.Ytbfipgeoecbpaaa.fRd X p := by
  have hz := h.le
  by_cases c0 : Proofs.Ytbfipgeoecbpaaa.agree X p ⟨mk.toArray⟩ < 22
  · by_cases c1 : Proofs.Ytbfipgeoecbpaaa.agree X p ⟨mk.toArray⟩ = X.size - p
    · exfalso; apply hn
      have e : fhE X p = 2 := by unfold fhE; rw [if_pos c0, if_pos c1]
      unfold Proofs.Ytbfipgeoecbpaaa.fRd
      rw [e]; rfl
    · have e : fhE X p = 3 := by unfold fhE; rw [if_pos c0, if_neg c1]
      have ha := h.agree hp (.inr c1)
      have hl := agrL_le mk (X.data.toList.drop p)
      have hl2 : (X.data.toList.drop p).length = X.size - p := by simp
      have hl3 : Proofs.Ytbfipgeoecbpaaa.agree X p ⟨mk.toArray⟩ ≤ X.size - p := by rw [← hl2]; exact hl.2
      have e2 : fhE Y p = 3 := by unfold fhE; rw [ha, if_pos c0, if_neg (by omega)]
      unfold Proofs.Ytbfipgeoecbpaaa.fRd
      rw [e, e2]; rfl
  · have hag : Proofs.Ytbfipgeoecbpaaa.agree X p ⟨mk.toArray⟩ = 22 := by
      have := agrL_le mk (X.data.toList.drop p)
      have h22 : Proofs.Ytbfipgeoecbpaaa.agree X p ⟨mk.toArray⟩ ≤ 22 := this.1
      omega
    have hagY : Proofs.Ytbfipgeoecbpaaa.agree Y p ⟨mk.toArray⟩ = 22 := by rw [h.agree hp (.inl hag)]; exact hag
    have hp22 : p + 22 ≤ X.size := by
      have := (agrL_le mk (X.data.toList.drop p)).2
      have hl2 : (X.data.toList.drop p).length = X.size - p := by simp
      have h22 : Proofs.Ytbfipgeoecbpaaa.agree X p ⟨mk.toArray⟩ ≤ X.size - p := by rw [← hl2]; exact this
      omega
    have two : ∀ {e : Nat}, fhE X p = e → e ≠ 2 := by
      rintro e he rfl
      apply hn
      unfold Proofs.Ytbfipgeoecbpaaa.fRd
      rw [he]; rfl
    have e1 : (fh1 X p).2.1 ≠ 2 := by
      intro e
      refine two (e := 2) ?_ rfl
      unfold fhE; rw [if_neg c0, if_pos (by rw [e]; decide)]; exact e
    have f1 : fh1 Y p = fh1 X p := h.wrd _ e1
    by_cases c1 : (fh1 X p).2.1 ≠ 0
    · have e : fhE X p = (fh1 X p).2.1 := by unfold fhE; rw [if_neg c0, if_pos c1]
      have e' : fhE Y p = (fh1 X p).2.1 := by unfold fhE; rw [hagY, if_neg (by decide), f1, if_pos c1]
      unfold Proofs.Ytbfipgeoecbpaaa.fRd
      rw [e, e', if_pos c1, if_pos c1]
    · have c1 : (fh1 X p).2.1 = 0 := by omega
      have e2 : (fh2 X p).2.1 ≠ 2 := by
        intro e
        refine two (e := 2) ?_ rfl
        unfold fhE; rw [if_neg c0, if_neg (by rw [c1]; decide), if_pos (by rw [e]; decide)]; exact e
      have f2 : fh2 Y p = fh2 X p := by unfold fh2 at e2 ⊢; rw [f1]; exact h.sget _ _ e2
      by_cases c2 : (fh2 X p).2.1 ≠ 0
      · have e : fhE X p = (fh2 X p).2.1 := by unfold fhE; rw [if_neg c0, if_neg (by rw [c1]; decide), if_pos c2]
        have e' : fhE Y p = (fh2 X p).2.1 := by unfold fhE; rw [hagY, if_neg (by decide), f1, f2, if_neg (by rw [c1]; decide), if_pos c2]
        unfold Proofs.Ytbfipgeoecbpaaa.fRd
        rw [e, e', if_pos c2, if_pos c2]
      · have c2 : (fh2 X p).2.1 = 0 := by omega
        have e3 : (fh3 X p).2.1 ≠ 2 := by
          intro e
          refine two (e := 2) ?_ rfl
          unfold fhE; rw [if_neg c0, if_neg (by rw [c1]; decide), if_neg (by rw [c2]; decide), if_pos (by rw [e]; decide)]; exact e
        have f3 : fh3 Y p = fh3 X p := by unfold fh3 at e3 ⊢; rw [f2]; exact h.sget _ _ e3
        by_cases c3 : (fh3 X p).2.1 ≠ 0
        · have e : fhE X p = (fh3 X p).2.1 := by unfold fhE; rw [if_neg c0, if_neg (by rw [c1]; decide), if_neg (by rw [c2]; decide), if_pos c3]
          have e' : fhE Y p = (fh3 X p).2.1 := by unfold fhE; rw [hagY, if_neg (by decide), f1, f2, f3, if_neg (by rw [c1]; decide), if_neg (by rw [c2]; decide), if_pos c3]
          unfold Proofs.Ytbfipgeoecbpaaa.fRd
          rw [e, e', if_pos c3, if_pos c3]
        · have c3 : (fh3 X p).2.1 = 0 := by omega
          have e4 : (fh4 X p).2.1 ≠ 2 := by
            intro e
            refine two (e := 2) ?_ rfl
            unfold fhE; rw [if_neg c0, if_neg (by rw [c1]; decide), if_neg (by rw [c2]; decide), if_neg (by rw [c3]; decide), if_pos (by rw [e]; decide)]; exact e
          have f4 : fh4 Y p = fh4 X p := by unfold fh4 at e4 ⊢; rw [f3]; exact h.sget _ _ e4
          by_cases c4 : (fh4 X p).2.1 ≠ 0
          · have e : fhE X p = (fh4 X p).2.1 := by unfold fhE; rw [if_neg c0, if_neg (by rw [c1]; decide), if_neg (by rw [c2]; decide), if_neg (by rw [c3]; decide), if_pos c4]
            have e' : fhE Y p = (fh4 X p).2.1 := by unfold fhE; rw [hagY, if_neg (by decide), f1, f2, f3, f4, if_neg (by rw [c1]; decide), if_neg (by rw [c2]; decide), if_neg (by rw [c3]; decide), if_pos c4]
            unfold Proofs.Ytbfipgeoecbpaaa.fRd
            rw [e, e', if_pos c4, if_pos c4]
          · have c4 : (fh4 X p).2.1 = 0 := by omega
            by_cases c5 : (fh4 X p).1 < 1 ∨ 120 < (fh4 X p).1
            · have e : fhE X p = 4 := by unfold fhE; rw [if_neg c0, if_neg (by rw [c1]; decide), if_neg (by rw [c2]; decide), if_neg (by rw [c3]; decide), if_neg (by rw [c4]; decide), if_pos c5]
              have e' : fhE Y p = 4 := by unfold fhE; rw [hagY, if_neg (by decide), f1, f2, f3, f4, if_neg (by rw [c1]; decide), if_neg (by rw [c2]; decide), if_neg (by rw [c3]; decide), if_neg (by rw [c4]; decide), if_pos c5]
              unfold Proofs.Ytbfipgeoecbpaaa.fRd
              rw [e, e']; rfl
            · have e : fhE X p = Proofs.Ytbfipgeoecbpaaa.smE X (fh4 X p).2.2 (fhB X p) := by unfold fhE; rw [if_neg c0, if_neg (by rw [c1]; decide), if_neg (by rw [c2]; decide), if_neg (by rw [c3]; decide), if_neg (by rw [c4]; decide), if_neg c5]
              have n1 : (fh1 X p).2.2 ≤ X.size := wrd_next X _ hp22
              have n2 : (fh2 X p).2.2 ≤ X.size := (sget_next X _ 10 n1).1
              have n3 : (fh3 X p).2.2 ≤ X.size := (sget_next X _ 10 n2).1
              have n4 : (fh4 X p).2.2 ≤ X.size := (sget_next X _ 2 n3).1
              have hB : fhB Y p = fhB X p := by unfold fhB; rw [f4, h.ext n4]
              have es : Proofs.Ytbfipgeoecbpaaa.smE X (fh4 X p).2.2 (fhB X p) ≠ 2 := two e
              have fs := h.smE _ _ es
              have e' : fhE Y p = Proofs.Ytbfipgeoecbpaaa.smE X (fh4 X p).2.2 (fhB X p) := by unfold fhE; rw [hagY, if_neg (by decide), f1, f2, f3, f4, if_neg (by rw [c1]; decide), if_neg (by rw [c2]; decide), if_neg (by rw [c3]; decide), if_neg (by rw [c4]; decide), if_neg c5, hB, fs]
              by_cases c6 : Proofs.Ytbfipgeoecbpaaa.smE X (fh4 X p).2.2 (fhB X p) ≠ 0
              · unfold Proofs.Ytbfipgeoecbpaaa.fRd
                rw [e, e', if_pos c6, if_pos c6]
              · have c6 : Proofs.Ytbfipgeoecbpaaa.smE X (fh4 X p).2.2 (fhB X p) = 0 := by omega
                have hw := congrArg (fun x => x.2.1) (smE_zero c6)
                simp only at hw
                have fw : Proofs.Ytbfipgeoecbpaaa.wrd Y (fh4 X p).2.2 = Proofs.Ytbfipgeoecbpaaa.wrd X (fh4 X p).2.2 := h.wrd _ (by rw [hw]; decide)
                have hQ : fhQ Y p = fhQ X p := by unfold fhQ; rw [f4, fw]
                have nQ : fhQ X p ≤ X.size := wrd_next X _ n4
                have hz1 : ¬ (X.size - fhQ X p < (fh4 X p).1) := by
                  intro c
                  apply hn
                  unfold Proofs.Ytbfipgeoecbpaaa.fRd
                  rw [if_neg (by rw [e, c6]; decide), if_pos c]
                have hP : fhP Y p = fhP X p := by unfold fhP; rw [hQ, f4]; exact h.ext (by omega)
                have nS : Proofs.Ytbfipgeoecbpaaa.smE X (fhQ X p + (fh4 X p).1) (fhP X p).data.toList ≠ 2 := by
                  intro c
                  apply hn
                  unfold Proofs.Ytbfipgeoecbpaaa.fRd
                  rw [if_neg (by rw [e, c6]; decide), if_neg hz1, if_pos (by rw [c]; decide), c]; rfl
                have fS := h.smE _ _ nS
                have hE0 : fhE Y p = 0 := by rw [e', c6]
                have hE1 : fhE X p = 0 := by rw [e, c6]
                unfold Proofs.Ytbfipgeoecbpaaa.fRd
                rw [hE0, hE1, hQ, f4, hP, fS, f2, f3, f1, if_neg (show ¬ (0 : Nat) ≠ 0 by decide), if_neg (show ¬ (0 : Nat) ≠ 0 by decide), if_neg (show ¬ Y.size - fhQ X p < (fh4 X p).1 by omega), if_neg hz1]
                by_cases c7 : Proofs.Ytbfipgeoecbpaaa.smE X (fhQ X p + (fh4 X p).1) (fhP X p).data.toList ≠ 0
                · rw [if_pos c7, if_pos c7]
                · rw [if_neg c7, if_neg c7]
                  have c7 : Proofs.Ytbfipgeoecbpaaa.smE X (fhQ X p + (fh4 X p).1) (fhP X p).data.toList = 0 := by omega
                  have hw2 := congrArg (fun x => x.2.1) (smE_zero c7)
                  simp only at hw2
                  rw [h.wrd _ (by rw [hw2]; decide)]
theorem Pre.frR (h : Pre X Y) {p : Nat} (hp : p ≤ X.size) (hn : (frR X (p : Int)).1 ≠ 2) : Proofs.Ytbfipgeoecbpaaa.frR Y (p : Int) = Proofs.Ytbfipgeoecbpaaa.frR X (p : Int) := by
  have hz := h.le
  have e : ∀ {Z : ByteArray}, p ≤ Z.size → Proofs.Ytbfipgeoecbpaaa.frR Z (p : Int) = Proofs.Ytbfipgeoecbpaaa.fRd Z p := by
    intro Z hZ
    unfold Proofs.Ytbfipgeoecbpaaa.frR
    rw [if_neg (by omega)]
    rfl
  rw [e hp] at hn
  rw [e hp, e (by omega)]
  exact h.fRd hp hn
/-- A hunt that goes on with more bytes is the hunt of all. -/
theorem Pre.fin (h : Pre X Y) (cl : Bool) (S : HS) (hp : S.p ≤ X.size) : hfin Y cl (hfin X false S) = hfin Y cl S := by
  have hz := h.le
  suffices H : (hfin X false S).p ≤ X.size ∧ hfin Y cl (hfin X false S) = hfin Y cl S from H.2
  refine hfin_ind (Q := fun T => T.p ≤ X.size ∧ hfin Y cl T = hfin Y cl S) ?_ S ⟨hp, rfl⟩
  rintro T ⟨hT, hf⟩ hs
  obtain ⟨h1, h2⟩ := hstop_no hs
  have hn : (Proofs.Ytbfipgeoecbpaaa.frR X T.p).1 ≠ 2 := fun e => h2 ⟨e, rfl⟩
  have e := h.frR hT hn
  have hs' : hstop Y cl T = false := by
    unfold hstop
    rw [e]
    simp only [hn, decide_false, Bool.false_and, Bool.or_false]
    simp; omega
  have hx : hnext Y T = hnext X T := by
    unfold hnext hskip
    rw [e]
  rw [hfin_next hs', hx] at hf
  exact ⟨(hnext_p h1).2, hf⟩
end ext
/-- Items told ahead stay ahead. -/
def HS.tell (l : List PIt) (S : HS) : HS := { S with its := l ++ S.its }
theorem hnext_tell (X : ByteArray) (l : List PIt) (S : HS) : hnext X (S.tell l) = (hnext X S).tell l := by
  unfold hnext hskip HS.tell
  simp only
  split
  · rfl
  · simp [List.append_assoc]
theorem hrun_tell (X : ByteArray) (cl : Bool) (l : List PIt) : ∀ (f : Nat) (S : HS), hrun X cl f (S.tell l) = (hrun X cl f S).tell l
  | 0, _ => rfl
  | f + 1, S => by
    rw [hrun, hrun]
    have e : hstop X cl (S.tell l) = hstop X cl S := rfl
    rw [e]
    split
    · rfl
    · rw [hnext_tell]; exact hrun_tell X cl l f _
theorem hfin_tell (X : ByteArray) (cl : Bool) (l : List PIt) (S : HS) : hfin X cl (S.tell l) = (hfin X cl S).tell l := hrun_tell X cl l _ S
/-- A hunter that was fed T and stands at G. -/
theorem hfin_part (T : ByteArray) (cl : Bool) (G : HS) (hp : G.p ≤ T.size) : hfin T cl G = ((hfin (T.extract G.p T.size) cl ⟨[], 0, G.nx, G.sk, G.lo⟩).off G.p).tell G.its := by
  have h1 := hfin_sh (from_ext hp) cl ⟨[], 0, G.nx, G.sk, G.lo⟩ (Nat.zero_le _)
  rw [← h1, ← hfin_tell]
  congr 1
  unfold HS.tell HS.off
  simp
theorem ext_app {T s : ByteArray} {p : Nat} (hp : p ≤ T.size) : T.extract p T.size ++ s = (T ++ s).extract p (T ++ s).size := by
  have e : (T.extract p T.size ++ s).data.toList = ((T ++ s).extract p (T ++ s).size).data.toList := by
    have h1 : (T.extract p T.size ++ s).data.toList = (T.extract p T.size).data.toList ++ s.data.toList := by simp
    have h2 : (T ++ s).data.toList = T.data.toList ++ s.data.toList := by simp
    have hl : T.data.toList.length = T.size := by simp
    rw [h1, ext_take, ext_take, h2, List.drop_append_of_le_length (by omega), List.take_of_length_le (by simp), List.take_of_length_le]
    simp [ByteArray.size_append]
    omega
  exact (ba_eq e).trans (ba_eq rfl).symm
theorem ext_ext {T : ByteArray} {p q : Nat} (hp : p ≤ T.size) (hq : q ≤ (T.extract p T.size).size) : (T.extract p T.size).extract q (T.extract p T.size).size = T.extract (p + q) T.size := by
  have hs : (T.extract p T.size).size = T.size - p := by rw [ByteArray.size_extract]; omega
  have e : ((T.extract p T.size).extract q (T.extract p T.size).size).data.toList = (T.extract (p + q) T.size).data.toList := by
    have hl : T.data.toList.length = T.size := by simp
    rw [ext_take, ext_take, ext_take, hs, List.take_of_length_le (l := T.data.toList.drop p) (by simp), List.drop_drop, show T.size - p - q = T.size - (p + q) by omega]
  exact (ba_eq e).trans (ba_eq rfl).symm
end Go.Proofs.Ytbfipgeoecbpaaa
