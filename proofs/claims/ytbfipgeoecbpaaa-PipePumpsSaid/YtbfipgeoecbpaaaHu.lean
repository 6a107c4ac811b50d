/- A hunter in plain words: what it tells of some bytes. No program in sight. No condition. -/
import Derived.Test.YtbfipgeoecbpaaaBF
namespace Go.Proofs.Ytbfipgeoecbpaaa
open Go.RowKit
set_option linter.unusedVariables false
set_option linter.unusedSimpArgs false
set_option maxRecDepth 20000
/-! ### what stands at a place hangs on the bytes from there on -/
section shift
variable {s t : ByteArray} {a : Nat}
/-- t is s from a on. -/
def From (s t : ByteArray) (a : Nat) : Prop := t.size + a = s.size ∧ t.data.toList = s.data.toList.drop a
theorem from_ext {s : ByteArray} {a : Nat} (h : a ≤ s.size) : From s (s.extract a s.size) a := by
  refine ⟨by rw [ByteArray.size_extract]; omega, ?_⟩
  rw [ext_take, List.take_of_length_le]
  simp
theorem From.at (h : From s t a) {i : Nat} (h1 : a + i < s.size) (h2 : i < t.size) : s[a + i] = t[i] := by
  have e1 : s.data.toList[a + i]? = some s[a + i] := by
    rw [List.getElem?_eq_getElem (by simpa using h1)]
    rfl
  have e2 : t.data.toList[i]? = some t[i] := by
    rw [List.getElem?_eq_getElem (by simpa using h2)]
    rfl
  rw [h.2, List.getElem?_drop, e1] at e2
  simpa using e2
def shT (a : Nat) (r : Nat × Nat × Nat) : Nat × Nat × Nat := (r.1, r.2.1, a + r.2.2)
theorem shT1 (r : Nat × Nat × Nat) : (shT a r).1 = r.1 := rfl
theorem shT2 (r : Nat × Nat × Nat) : (shT a r).2.1 = r.2.1 := rfl
theorem shT3 (r : Nat × Nat × Nat) : (shT a r).2.2 = a + r.2.2 := rfl
theorem From.sgo (h : From s t a) (p : Nat) : ∀ (f k acc : Nat), Proofs.Ytbfipgeoecbpaaa.sgo s (a + p) f k acc = shT a (Proofs.Ytbfipgeoecbpaaa.sgo t p f k acc)
  | 0, k, acc => by unfold Proofs.Ytbfipgeoecbpaaa.sgo shT; simp; omega
  | f + 1, k, acc => by
    have hz := h.1
    by_cases hk : p + k < t.size
    · have hk' : a + p + k < s.size := by omega
      have e : s[a + p + k]'hk' = t[p + k] := by
        have := h.at (i := p + k) (by omega) hk
        rw [← this]
        congr 1
        omega
      by_cases hb : 127 < t[p + k].toNat ∨ (k = 9 ∧ 1 < t[p + k].toNat)
      · rw [sgo_bad hk' rfl (by rw [e]; exact hb), sgo_bad hk rfl hb]; rfl
      · rw [sgo_go hk' rfl (by rw [e]; exact hb), sgo_go hk rfl hb, e]
        exact h.sgo p f (k + 1) _
    · rw [sgo_end hk, sgo_end (by omega)]; rfl
theorem From.sget (h : From s t a) (p : Nat) (c : Int) : Proofs.Ytbfipgeoecbpaaa.sget s (a + p) c = shT a (Proofs.Ytbfipgeoecbpaaa.sget t p c) := by
  unfold Proofs.Ytbfipgeoecbpaaa.sget
  split
  · rfl
  · exact h.sgo p _ _ _
theorem From.wrd (h : From s t a) (p : Nat) : Proofs.Ytbfipgeoecbpaaa.wrd s (a + p) = shT a (Proofs.Ytbfipgeoecbpaaa.wrd t p) := by
  unfold Proofs.Ytbfipgeoecbpaaa.wrd
  rw [h.sget, shT1, shT2, shT3]
  generalize Proofs.Ytbfipgeoecbpaaa.sget t p 5 = r
  split <;> rfl
theorem From.smE (h : From s t a) (p : Nat) (l : List UInt8) : Proofs.Ytbfipgeoecbpaaa.smE s (a + p) l = Proofs.Ytbfipgeoecbpaaa.smE t p l := by
  unfold Proofs.Ytbfipgeoecbpaaa.smE
  rw [h.wrd, shT1, shT2]
theorem From.agree (h : From s t a) (p : Nat) (m : ByteArray) : Proofs.Ytbfipgeoecbpaaa.agree s (a + p) m = Proofs.Ytbfipgeoecbpaaa.agree t p m := by
  unfold Proofs.Ytbfipgeoecbpaaa.agree
  rw [h.2, List.drop_drop]
theorem From.fh1 (h : From s t a) (p : Nat) : Proofs.Ytbfipgeoecbpaaa.fh1 s (a + p) = shT a (Proofs.Ytbfipgeoecbpaaa.fh1 t p) := by
  unfold Proofs.Ytbfipgeoecbpaaa.fh1
  rw [Nat.add_assoc, h.wrd]
theorem From.fh2 (h : From s t a) (p : Nat) : Proofs.Ytbfipgeoecbpaaa.fh2 s (a + p) = shT a (Proofs.Ytbfipgeoecbpaaa.fh2 t p) := by
  unfold Proofs.Ytbfipgeoecbpaaa.fh2
  rw [h.fh1, shT3]
  exact h.sget _ _
theorem From.fh3 (h : From s t a) (p : Nat) : Proofs.Ytbfipgeoecbpaaa.fh3 s (a + p) = shT a (Proofs.Ytbfipgeoecbpaaa.fh3 t p) := by
  unfold Proofs.Ytbfipgeoecbpaaa.fh3
  rw [h.fh2, shT3]
  exact h.sget _ _
theorem From.fh4 (h : From s t a) (p : Nat) : Proofs.Ytbfipgeoecbpaaa.fh4 s (a + p) = shT a (Proofs.Ytbfipgeoecbpaaa.fh4 t p) := by
  unfold Proofs.Ytbfipgeoecbpaaa.fh4
  rw [h.fh3, shT3]
  exact h.sget _ _
theorem From.ext (h : From s t a) (i j : Nat) : (s.extract (a + i) (a + j)).data.toList = (t.extract i j).data.toList := by
  rw [ext_take, ext_take, h.2, List.drop_drop, show a + j - (a + i) = j - i by omega]
theorem From.fhB (h : From s t a) (p : Nat) : Proofs.Ytbfipgeoecbpaaa.fhB s (a + p) = Proofs.Ytbfipgeoecbpaaa.fhB t p := by
  unfold Proofs.Ytbfipgeoecbpaaa.fhB
  rw [h.fh4, shT3, Nat.add_assoc]
  exact h.ext _ _
theorem From.fhE (h : From s t a) (p : Nat) : Proofs.Ytbfipgeoecbpaaa.fhE s (a + p) = Proofs.Ytbfipgeoecbpaaa.fhE t p := by
  have hz := h.1
  unfold Proofs.Ytbfipgeoecbpaaa.fhE
  rw [h.agree, h.fh1, h.fh2, h.fh3, h.fh4, h.fhB, show s.size - (a + p) = t.size - p by omega]
  simp only [shT1, shT2, shT3]
  rw [h.smE]
  generalize Proofs.Ytbfipgeoecbpaaa.smE t (Proofs.Ytbfipgeoecbpaaa.fh4 t p).2.2 (Proofs.Ytbfipgeoecbpaaa.fhB t p) = x0
  generalize Proofs.Ytbfipgeoecbpaaa.agree t p ⟨mk.toArray⟩ = x1
  generalize Proofs.Ytbfipgeoecbpaaa.fh1 t p = x2
  generalize Proofs.Ytbfipgeoecbpaaa.fh2 t p = x3
  generalize Proofs.Ytbfipgeoecbpaaa.fh3 t p = x4
  generalize Proofs.Ytbfipgeoecbpaaa.fh4 t p = x5
  rfl
theorem From.fhQ (h : From s t a) (p : Nat) : Proofs.Ytbfipgeoecbpaaa.fhQ s (a + p) = a + Proofs.Ytbfipgeoecbpaaa.fhQ t p := by
  unfold Proofs.Ytbfipgeoecbpaaa.fhQ
  rw [h.fh4, shT3, h.wrd, shT3]
theorem From.fhP (h : From s t a) (p : Nat) : Proofs.Ytbfipgeoecbpaaa.fhP s (a + p) = Proofs.Ytbfipgeoecbpaaa.fhP t p := by
  refine (ba_eq ?_).trans (ba_eq rfl).symm
  unfold Proofs.Ytbfipgeoecbpaaa.fhP
  rw [h.fhQ, h.fh4, shT1, Nat.add_assoc]
  exact h.ext _ _
def shR (a : Nat) (r : Int × Nat × List Ev × Nat) : Int × Nat × List Ev × Nat := (r.1, r.2.1, r.2.2.1, if r.1 = 0 then a + r.2.2.2 else r.2.2.2)
theorem From.fRd (h : From s t a) (p : Nat) : Proofs.Ytbfipgeoecbpaaa.fRd s (a + p) = shR a (Proofs.Ytbfipgeoecbpaaa.fRd t p) := by
  have hz := h.1
  unfold Proofs.Ytbfipgeoecbpaaa.fRd
  rw [h.fhE, h.fhP, h.fh2, h.fh3, h.fh1, h.fhQ, h.fh4, shT1, shT1, shT1, shT1, Nat.add_assoc, h.smE, h.wrd, shT3, show s.size - (a + Proofs.Ytbfipgeoecbpaaa.fhQ t p) = t.size - Proofs.Ytbfipgeoecbpaaa.fhQ t p by omega]
  generalize Proofs.Ytbfipgeoecbpaaa.fhE t p = e1
  generalize Proofs.Ytbfipgeoecbpaaa.smE t (Proofs.Ytbfipgeoecbpaaa.fhQ t p + (Proofs.Ytbfipgeoecbpaaa.fh4 t p).1) (Proofs.Ytbfipgeoecbpaaa.fhP t p).data.toList = e2
  generalize rdL (Proofs.Ytbfipgeoecbpaaa.fhP t p) (Proofs.Ytbfipgeoecbpaaa.fhP t p).size (Proofs.Ytbfipgeoecbpaaa.fh2 t p).1 (Proofs.Ytbfipgeoecbpaaa.fh3 t p).1 0 = e3
  generalize (Proofs.Ytbfipgeoecbpaaa.wrd t (Proofs.Ytbfipgeoecbpaaa.fhQ t p + (Proofs.Ytbfipgeoecbpaaa.fh4 t p).1)).2.2 = e4
  generalize t.size - Proofs.Ytbfipgeoecbpaaa.fhQ t p = e5
  generalize Proofs.Ytbfipgeoecbpaaa.fh1 t p = x1
  generalize Proofs.Ytbfipgeoecbpaaa.fh2 t p = x2
  generalize Proofs.Ytbfipgeoecbpaaa.fh3 t p = x3
  generalize Proofs.Ytbfipgeoecbpaaa.fh4 t p = x4
  by_cases c1 : e1 ≠ 0
  · rw [if_pos c1, if_pos c1]
    unfold shR
    simp only
    rw [if_neg (by omega)]
  · rw [if_neg c1, if_neg c1]
    by_cases c2 : e5 < x4.1
    · rw [if_pos c2, if_pos c2]
      unfold shR
      simp only
      rw [if_neg (by decide)]
    · rw [if_neg c2, if_neg c2]
      by_cases c3 : e2 ≠ 0
      · rw [if_pos c3, if_pos c3]
        unfold shR
        simp only
        rw [if_neg (by omega)]
      · rw [if_neg c3, if_neg c3]
        by_cases c4 : e3.2 ≠ 0
        · rw [if_pos c4, if_pos c4]
          unfold shR
          simp only
          rw [if_neg c4]
        · rw [if_neg c4, if_neg c4]
          by_cases c5 : (e3.1.getD 0 default).cy ≠ x2.1 ∨ (e3.1.getD 0 default).ct ≠ x3.1
          · rw [if_pos c5, if_pos c5]
            unfold shR
            simp only
            rw [if_neg (by decide)]
          · rw [if_neg c5, if_neg c5]
            unfold shR
            simp
theorem From.frR (h : From s t a) (p : Nat) (hp : p ≤ t.size) : Proofs.Ytbfipgeoecbpaaa.frR s ((a + p : Nat) : Int) = shR a (Proofs.Ytbfipgeoecbpaaa.frR t (p : Int)) := by
  have hz := h.1
  unfold Proofs.Ytbfipgeoecbpaaa.frR
  rw [if_neg (by omega), if_neg (by omega)]
  exact h.fRd p
end shift
theorem fRd_seq {s : ByteArray} {p : Nat} (hp : p ≤ s.size) {seq nx : Nat} {l : List Ev} (h : fRd s p = (0, seq, l, nx)) : seq < 4294967296 := by
  unfold fRd at h
  split at h
  · rename_i hE
    have e := congrArg Prod.fst h
    simp only at e
    exact absurd (show fhE s p = 0 by omega) hE
  · rename_i hE
    have hE : fhE s p = 0 := by simpa using hE
    obtain ⟨hag, _⟩ := fhE_parts hE
    split at h
    · cases h
    · split at h
      · rename_i hs2
        have e := congrArg Prod.fst h
        simp only at e
        exact absurd (show smE s (fhQ s p + (fh4 s p).1) (fhP s p).data.toList = 0 by omega) hs2
      · split at h
        · rename_i hr
          have e := congrArg Prod.fst h
          simp only at e
          exact absurd e hr
        · split at h
          · cases h
          · have hs : (fh1 s p).1 = seq := congrArg (fun x => x.2.1) h
            have hagl := agrL_le mk (s.data.toList.drop p)
            have h22 : agree s p ⟨mk.toArray⟩ ≤ s.size - p := by
              have e : (s.data.toList.drop p).length = s.size - p := by simp
              rw [← e]; exact hagl.2
            have hw := wrd_le s (p + 22) (by omega)
            unfold fh1 at hs
            omega
theorem frR_ok {X : ByteArray} {p : Nat} (hp : p ≤ X.size) {seq nx : Nat} {l : List Ev} (h : frR X (p : Int) = (0, seq, l, nx)) : p + 60 ≤ nx ∧ nx ≤ X.size ∧ seq < 4294967296 ∧ (∀ i, i < l.length → (l.getD i default).Wf) ∧ frE (fun i => l.getD i default) l.length = 0 ∧ frS seq (fun i => l.getD i default) l.length = (X.extract p nx).data.toList ∧ l.length ≤ 120 := by
  have hR : fRd X p = (0, seq, l, nx) := by
    unfold frR at h
    rw [if_neg (by omega)] at h
    simpa using h
  obtain ⟨h1, h2, h3, h4, h5⟩ := fRd_spell hp hR
  have hl := congrArg List.length h5
  unfold frS at hl
  rw [if_pos h4, frB_len, ext_take, List.length_take, List.length_drop] at hl
  have hx : X.data.toList.length = X.size := by simp
  obtain ⟨hn, hp0, hl0⟩ := frE_zero h4
  have hpos : l.length ≤ (prnC (fun i => l.getD i default) l.length).length := by
    have key : ∀ n, n ≤ (prnC (fun i => l.getD i default) n).length := by
      intro n
      induction n with
      | zero => exact Nat.zero_le _
      | succ n ih =>
        rw [prnC, List.length_append]
        have := evb_pos (((fun i => l.getD i default)) (n - 1)) ((fun i => l.getD i default) n)
        simp only at this ih ⊢
        omega
    exact key _
  have hseq : seq < 4294967296 := fRd_seq hp hR
  refine ⟨by omega, h2, hseq, h3, h4, h5, by omega⟩
/-! ### the hunt -/
/-- An item: its kind, its number, how many are lost, its events. -/
abbrev PIt := Int × Nat × Nat × List Ev
structure HS where
  its : List PIt
  p : Nat
  nx : Nat
  sk : Nat
  lo : Nat
def hstop (X : ByteArray) (cl : Bool) (S : HS) : Bool := !decide (S.p < X.size) || (decide ((frR X S.p).1 = 2) && !cl)
def hskip (X : ByteArray) (S : HS) : Bool := decide ((frR X S.p).1 ≠ 0) || decide ((frR X S.p).2.1 < S.nx)
def gapI (nx seq : Nat) : List PIt := if nx < seq then [(2, nx, seq - nx, [])] else []
def told (nx seq : Nat) (l : List Ev) : List PIt := gapI nx seq ++ [(1, seq, 0, l)]
def hnext (X : ByteArray) (S : HS) : HS :=
  if hskip X S then { S with p := S.p + 1, sk := S.sk + 1 }
  else ⟨S.its ++ told S.nx (frR X S.p).2.1 (frR X S.p).2.2.1, (frR X S.p).2.2.2, (frR X S.p).2.1 + 1, S.sk, S.lo + ((frR X S.p).2.1 - S.nx)⟩
def hrun (X : ByteArray) (cl : Bool) : Nat → HS → HS
  | 0, S => S
  | f + 1, S => if hstop X cl S then S else hrun X cl f (hnext X S)
def hfin (X : ByteArray) (cl : Bool) (S : HS) : HS := hrun X cl (X.size - S.p) S
theorem hstop_no {X : ByteArray} {cl : Bool} {S : HS} (h : hstop X cl S = false) : S.p < X.size ∧ ¬ ((frR X S.p).1 = 2 ∧ cl = false) := by
  unfold hstop at h
  simp at h
  refine ⟨h.1, fun x => ?_⟩
  have := h.2 x.1
  rw [x.2] at this
  cases this
theorem hnext_p {X : ByteArray} {S : HS} (hp : S.p < X.size) : S.p + 1 ≤ (hnext X S).p ∧ (hnext X S).p ≤ X.size := by
  unfold hnext
  split
  · exact ⟨Nat.le_refl _, hp⟩
  · rename_i h
    unfold hskip at h
    simp at h
    obtain ⟨r1, r2, r3, r4⟩ : ∃ a b c, frR X S.p = (0, a, b, c) := ⟨_, _, _, by rw [← h.1]⟩
    obtain ⟨h1, h2, _⟩ := frR_ok (Nat.le_of_lt hp) r4
    rw [r4]
    exact ⟨by show S.p + 1 ≤ r3; omega, h2⟩
theorem hrun_more (X : ByteArray) (cl : Bool) : ∀ (f g : Nat) (S : HS), X.size - S.p ≤ f → X.size - S.p ≤ g → hrun X cl f S = hrun X cl g S
  | 0, 0, _, _, _ => rfl
  | 0, g + 1, S, h, _ => by
    have : hstop X cl S = true := by unfold hstop; simp; omega
    rw [hrun, hrun, if_pos this]
  | f + 1, 0, S, _, h => by
    have : hstop X cl S = true := by unfold hstop; simp; omega
    rw [hrun, hrun, if_pos this]
  | f + 1, g + 1, S, h1, h2 => by
    rw [hrun, hrun]
    cases hs : hstop X cl S with
    | true => rfl
    | false =>
      have hp := (hstop_no hs).1
      have := hnext_p hp
      simp only [Bool.false_eq_true, if_false]
      exact hrun_more X cl f g (hnext X S) (by omega) (by omega)
theorem hfin_stop {X : ByteArray} {cl : Bool} {S : HS} (h : hstop X cl S = true) : hfin X cl S = S := by
  unfold hfin
  cases X.size - S.p with
  | zero => rfl
  | succ n => rw [hrun, if_pos h]
theorem hfin_next {X : ByteArray} {cl : Bool} {S : HS} (h : hstop X cl S = false) : hfin X cl S = hfin X cl (hnext X S) := by
  have hp := (hstop_no h).1
  have := hnext_p hp
  unfold hfin
  obtain ⟨n, hn⟩ : ∃ n, X.size - S.p = n + 1 := ⟨X.size - S.p - 1, by omega⟩
  rw [hn, hrun, if_neg (by rw [h]; decide)]
  exact hrun_more X cl _ _ _ (by omega) (Nat.le_refl _)
/-- What is kept through a hunt. -/
structure HS.Ok (X : ByteArray) (S : HS) : Prop where
  p : S.p ≤ X.size
  nx : S.nx ≤ 4294967296
  lo : S.lo ≤ S.nx
theorem HS.Ok.next {X : ByteArray} {S : HS} (h : S.Ok X) (hp : S.p < X.size) : (hnext X S).Ok X := by
  have h1 := h.nx
  have h2 := h.lo
  have h3 := hnext_p hp
  refine ⟨h3.2, ?_, ?_⟩
  · unfold hnext
    split
    · exact h.nx
    · rename_i hs
      unfold hskip at hs
      simp at hs
      obtain ⟨r1, r2, r3, r4⟩ : ∃ a b c, frR X S.p = (0, a, b, c) := ⟨_, _, _, by rw [← hs.1]⟩
      have := (frR_ok (Nat.le_of_lt hp) r4).2.2.1
      rw [r4]
      show r1 + 1 ≤ _
      omega
  · unfold hnext
    split
    · exact h.lo
    · rename_i hs
      unfold hskip at hs
      simp at hs
      show S.lo + (_ - S.nx) ≤ _ + 1
      omega
theorem hfin_ind {X : ByteArray} {cl : Bool} {Q : HS → Prop} (hn : ∀ S, Q S → hstop X cl S = false → Q (hnext X S)) : ∀ (S : HS), Q S → Q (hfin X cl S) := by
  have key : ∀ (f : Nat) (S : HS), Q S → Q (hrun X cl f S) := by
    intro f
    induction f with
    | zero => exact fun _ h => h
    | succ f ih =>
      intro S h
      rw [hrun]
      cases hs : hstop X cl S with
      | true => exact h
      | false => exact ih _ (hn S h hs)
  exact fun S h => key _ S h
theorem HS.Ok.fin {X : ByteArray} {cl : Bool} {S : HS} (h : S.Ok X) : (hfin X cl S).Ok X := hfin_ind (fun _ hS hs => hS.next (hstop_no hs).1) S h
/-- A hunt that begins at the text's place a. -/
def HS.off (a : Nat) (S : HS) : HS := { S with p := a + S.p }
theorem hstop_sh {s t : ByteArray} {a : Nat} (h : From s t a) (cl : Bool) (S : HS) (hp : S.p ≤ t.size) : hstop s cl (S.off a) = hstop t cl S := by
  have hz := h.1
  unfold hstop HS.off
  simp only
  rw [h.frR S.p hp]
  have e : decide (a + S.p < s.size) = decide (S.p < t.size) := decide_eq_decide.2 (by omega)
  rw [e]
  rfl
theorem hnext_sh {s t : ByteArray} {a : Nat} (h : From s t a) (S : HS) (hp : S.p ≤ t.size) : hnext s (S.off a) = (hnext t S).off a := by
  unfold hnext hskip HS.off
  simp only
  rw [h.frR S.p hp]
  unfold shR
  simp only
  split
  · rfl
  · rename_i hs
    simp at hs
    rw [if_pos hs.1]
theorem hrun_sh {s t : ByteArray} {a : Nat} (h : From s t a) (cl : Bool) : ∀ (f : Nat) (S : HS), S.p ≤ t.size → hrun s cl f (S.off a) = (hrun t cl f S).off a
  | 0, _, _ => rfl
  | f + 1, S, hp => by
    rw [hrun, hrun, hstop_sh h cl S hp]
    cases hs : hstop t cl S with
    | true => rfl
    | false =>
      simp only [Bool.false_eq_true, if_false]
      rw [hnext_sh h S hp]
      exact hrun_sh h cl f _ (hnext_p (hstop_no hs).1).2
theorem hfin_sh {s t : ByteArray} {a : Nat} (h : From s t a) (cl : Bool) (S : HS) (hp : S.p ≤ t.size) : hfin s cl (S.off a) = (hfin t cl S).off a := by
  have hz := h.1
  unfold hfin
  have : s.size - (S.off a).p = t.size - S.p := by show s.size - (a + S.p) = _; omega
  rw [this]
  exact hrun_sh h cl _ S hp
end Go.Proofs.Ytbfipgeoecbpaaa
