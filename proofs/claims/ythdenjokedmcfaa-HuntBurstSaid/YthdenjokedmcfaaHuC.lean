/- Plain law of HuntCounts: what a hunter tells adds up. One hunter that is fed piece by piece. No condition but those that each names. -/
import Derived.Test.YthdenjokedmcfaaHuK
import Derived.Test.YthdenjokedmcfaaHuY
namespace Go.Proofs.Ythdenjokedmcfaa
open Go.RowKit
set_option linter.unusedVariables false
set_option linter.unusedSimpArgs false
set_option maxRecDepth 20000
def okIt (nx : Nat) (x : PIt) : Prop := (x.1 = 2 ∧ x.2.1 = nx ∧ 0 < x.2.2.1 ∧ x.2.2.1 < 4294967296 ∧ nx < 4294967296 ∧ x.2.2.2 = []) ∨ (x.1 = 1 ∧ x.2.1 = nx ∧ x.2.2.1 = 0 ∧ GoodF (nx, x.2.2.2))
def tstep (s : Nat × Nat × Nat) (x : PIt) : Nat × Nat × Nat := if x.1 = 2 then (s.1 + x.2.2.1, s.2.1 + x.2.2.1, s.2.2) else (s.1 + 1, s.2.1, s.2.2 + (frT (x.2.1, x.2.2.2)).length)
def tal (L : List PIt) : Nat × Nat × Nat := L.foldl tstep (0, 0, 0)
theorem tal_snoc (L : List PIt) (x : PIt) : tal (L ++ [x]) = tstep (tal L) x := by unfold tal; rw [List.foldl_append]; rfl
def TalOk (L : List PIt) : Prop := ∀ (k : Nat) (x : PIt), L[k]? = some x → okIt (tal (L.take k)).1 x
theorem talOk_snoc {L : List PIt} {x : PIt} (h : TalOk L) (hx : okIt (tal L).1 x) : TalOk (L ++ [x]) := by
  intro k y hy
  rcases Nat.lt_or_ge k L.length with hk | hk
  · rw [List.getElem?_append_left hk] at hy
    rw [List.take_append_of_le_length (by omega)]
    exact h k y hy
  · rw [List.getElem?_append_right hk] at hy
    have h0 : k - L.length = 0 := by
      rcases Nat.eq_zero_or_pos (k - L.length) with q | q
      · exact q
      · rw [List.getElem?_eq_none (by simp only [List.length_singleton]; omega)] at hy; cases hy
    rw [h0] at hy
    have e : x = y := by simpa using hy
    rw [← e, List.take_append, show k - L.length = 0 by omega, List.take_of_length_le (by omega), List.take_zero, List.append_nil]
    exact hx
structure CntOk (G : HS) : Prop where
  ok : TalOk G.its
  nx : (tal G.its).1 = G.nx
  lo : (tal G.its).2.1 = G.lo
  sk : (tal G.its).2.2 + G.sk = G.p
  le : G.nx ≤ 4294967296
theorem cnt_next {X : ByteArray} {S : HS} (h : CntOk S) (hp : S.p < X.size) : CntOk (hnext X S) := by
  obtain ⟨h1, h2, h3, h4, h5⟩ := h
  by_cases hk : hskip X S
  · unfold hnext
    rw [if_pos hk]
    exact ⟨h1, h2, h3, by simp only; omega, h5⟩
  · have hn : hnext X S = ⟨S.its ++ told S.nx (frR X S.p).2.1 (frR X S.p).2.2.1, (frR X S.p).2.2.2, (frR X S.p).2.1 + 1, S.sk, S.lo + ((frR X S.p).2.1 - S.nx)⟩ := by unfold hnext; rw [if_neg hk]
    rw [hn]
    unfold hskip at hk
    simp at hk
    obtain ⟨sq, l, nx2, hr⟩ : ∃ a b c, frR X S.p = (0, a, b, c) := ⟨_, _, _, by rw [← hk.1]⟩
    obtain ⟨k1, k2, k3, k4, k5, k6, k7⟩ := frR_ok (Nat.le_of_lt hp) hr
    rw [hr] at hk ⊢
    simp only at hk ⊢
    have hg : GoodF (sq, l) := ⟨k3, k5, k4⟩
    have hlen : (frT (sq, l)).length + S.p = nx2 := by
      unfold frS at k6
      rw [if_pos k5] at k6
      have := congrArg List.length k6
      rw [ext_take, List.length_take, List.length_drop] at this
      have hX : X.data.toList.length = X.size := by simp
      show (frB sq (fun i => l.getD i default) l.length).length + S.p = nx2
      omega
    have hle : S.nx ≤ sq := hk.2
    unfold told gapI
    by_cases hgp : S.nx < sq
    · rw [if_pos hgp]
      have e1 : TalOk (S.its ++ [(2, S.nx, sq - S.nx, [])]) := talOk_snoc h1 (.inl ⟨rfl, h2.symm, by simp only; omega, by simp only; omega, by omega, rfl⟩)
      have e2 : tal (S.its ++ [(2, S.nx, sq - S.nx, [])]) = (sq, S.lo + (sq - S.nx), (tal S.its).2.2) := by
        rw [tal_snoc]
        unfold tstep
        rw [if_pos rfl]
        simp only [h2, h3, Prod.mk.injEq, and_true]
        omega
      have e3 : TalOk (S.its ++ [(2, S.nx, sq - S.nx, [])] ++ [(1, sq, 0, l)]) := talOk_snoc e1 (.inr ⟨rfl, by rw [e2], rfl, by rw [e2]; exact hg⟩)
      have e4 : tal (S.its ++ [(2, S.nx, sq - S.nx, [])] ++ [(1, sq, 0, l)]) = (sq + 1, S.lo + (sq - S.nx), (tal S.its).2.2 + (frT (sq, l)).length) := by
        rw [tal_snoc, e2]
        unfold tstep
        rw [if_neg (show ¬ ((1 : Int) = 2) by decide)]
      rw [List.append_assoc] at e3 e4
      exact ⟨e3, by rw [e4], by rw [e4], by rw [e4]; simp only; omega, by simp only; omega⟩
    · rw [if_neg hgp, List.nil_append]
      have hsq : sq = S.nx := by omega
      have e3 : TalOk (S.its ++ [(1, sq, 0, l)]) := talOk_snoc h1 (.inr ⟨rfl, by rw [h2, hsq], rfl, by rw [h2, ← hsq]; exact hg⟩)
      have e4 : tal (S.its ++ [(1, sq, 0, l)]) = (sq + 1, S.lo, (tal S.its).2.2 + (frT (sq, l)).length) := by
        rw [tal_snoc]
        unfold tstep
        rw [if_neg (show ¬ ((1 : Int) = 2) by decide), h2, h3, hsq]
      exact ⟨e3, by rw [e4], by rw [e4]; simp only; omega, by rw [e4]; simp only; omega, by simp only; omega⟩
theorem cnt_fin {X : ByteArray} {cl : Bool} {S : HS} (h : CntOk S) : CntOk (hfin X cl S) := hfin_ind (Q := CntOk) (fun T hT hs => cnt_next hT (hstop_no hs).1) S h
theorem cnt0 : CntOk hs0 := ⟨(fun k x hx => by simp [hs0] at hx), rfl, rfl, rfl, by show (0 : Nat) ≤ 4294967296; omega⟩
/-- A closed hunt goes to the end. -/
theorem fin_end {X : ByteArray} {S : HS} (hp : S.p ≤ X.size) : (hfin X true S).p = X.size := by
  have key : ∀ (f : Nat) (S : HS), X.size - S.p ≤ f → S.p ≤ X.size → (hrun X true f S).p = X.size := by
    intro f
    induction f with
    | zero => intro S h1 h2; show S.p = _; omega
    | succ f ih =>
      intro S h1 h2
      rw [hrun]
      cases hs : hstop X true S with
      | true =>
        rw [if_pos rfl]
        unfold hstop at hs
        simp at hs
        omega
      | false =>
        rw [if_neg (by decide)]
        have hp := (hstop_no hs).1
        have := hnext_p hp
        exact ih _ (by omega) this.2
  exact key _ S (Nat.le_refl _) hp
theorem tal_more (L : List PIt) : ∀ k, (tal (L.take k)).2.2 ≤ (tal L).2.2 ∧ (tal (L.take k)).1 ≤ (tal L).1 ∧ (tal (L.take k)).2.1 ≤ (tal L).2.1 := by
  have key : ∀ (M : List PIt) (s : Nat × Nat × Nat), s.2.2 ≤ (M.foldl tstep s).2.2 ∧ s.1 ≤ (M.foldl tstep s).1 ∧ s.2.1 ≤ (M.foldl tstep s).2.1 := by
    intro M
    induction M with
    | nil => intro s; exact ⟨Nat.le_refl _, Nat.le_refl _, Nat.le_refl _⟩
    | cons x M ih =>
      intro s
      have h1 := ih (tstep s x)
      have h2 : s.2.2 ≤ (tstep s x).2.2 ∧ s.1 ≤ (tstep s x).1 ∧ s.2.1 ≤ (tstep s x).2.1 := by
        unfold tstep
        split
        · simp only; omega
        · simp only; omega
      rw [List.foldl_cons]
      omega
  intro k
  have := key (L.drop k) (tal (L.take k))
  unfold tal at this ⊢
  rw [← List.foldl_append, List.take_append_drop] at this
  exact this
theorem tal_take {L : List PIt} {k : Nat} {x : PIt} (h : L[k]? = some x) : tal (L.take (k + 1)) = tstep (tal (L.take k)) x := by
  have hk : k < L.length := by
    rcases Nat.lt_or_ge k L.length with q | q
    · exact q
    · rw [List.getElem?_eq_none q] at h; cases h
  rw [List.getElem?_eq_getElem hk] at h
  rw [List.take_succ_eq_append_getElem hk, tal_snoc]
  congr 1
  simpa using h
/-- Where a law stands that feeds one hunter piece by piece. -/
structure OnSt (W : World) (tb b : Nat) (T : ByteArray) (G : HS) (cl : Bool) (v : Value) (its : List Itm) (wr : World) : Prop where
  bel : Below W.heap.size W wr
  acc : Acc wr (b + 1) b tb T G cl v its
  tab : IsTab wr tb
  lo : W.heap.size ≤ tb ∧ tb < b
  bs : b < wr.heap.size
theorem OnSt.below {W : World} {tb b : Nat} {T : ByteArray} {G : HS} {cl : Bool} {v : Value} {its : List Itm} {wr w2 : World} (h : OnSt W tb b T G cl v its wr) (k : Below wr.heap.size wr w2) : OnSt W tb b T G cl v its w2 :=
  { h with bel := h.bel.trans (k.mono h.bel.size), acc := h.acc.below k, tab := h.tab.kept k, bs := Nat.lt_of_lt_of_le h.bs k.size }
/-- What a call of Feed or Close gives for the append behind it. -/
structure Fd6 (w w1 : World) (b tb : Nat) (T2 : ByteArray) (G R : HS) (cl2 : Bool) (ao : Option Addr) (cap : Nat) (m : List Itm) : Prop where
  it : R.its = G.its ++ m.map Itm.p
  inn : ItIn w1 w.heap.size (.slice ao m.length cap) m
  fed : Fed w1 b tb T2 R cl2
  only : Only (fun k => k = b) w w1
  few : ItsOk R
theorem fd6_of {w w1 : World} {b tb : Nat} {T2 : ByteArray} {G R : HS} {cl2 : Bool} {x : Ending} (h : FedPost w b tb T2 G R cl2 x w1) (hf : ItsOk R) : ∃ ao cap m, x = .returned (.slice ao m.length cap) ∧ Fd6 w w1 b tb T2 G R cl2 ao cap m := by
  obtain ⟨ao, cap, m, rfl, h1, h2, h3, h4⟩ := h
  exact ⟨ao, cap, m, rfl, h1, h2, h3, h4, hf⟩
theorem Fd6.len {w w1 : World} {lo b tb n : Nat} {T T2 : ByteArray} {G R : HS} {cl cl2 : Bool} {ao : Option Addr} {cap : Nat} {m its : List Itm} {v : Value} (h : Fd6 w w1 b tb T2 G R cl2 ao cap m) (hA : Acc w lo b tb T G cl v its) (hT : T2.size ≤ n) : its.length + m.length ≤ 2 * n := by
  have h1 := h.few.1
  have h2 := h.fed.ok.p
  rw [h.it, ← hA.map, List.length_append, List.length_map, List.length_map] at h1
  omega
theorem OnSt.more {W : World} {tb b : Nat} {T T2 : ByteArray} {G R : HS} {cl cl2 : Bool} {v v' : Value} {its m : List Itm} {wr w1 w2 : World} {ao : Option Addr} {cap : Nat} (h : OnSt W tb b T G cl v its wr) (f : Fd6 wr w1 b tb T2 G R cl2 ao cap m)
    (hr : w2.ownsRow (b + 1) 44 4 v' (its.length + m.length) (itCells its ++ itCells m)) (hg : w1.grownBy w2 v.ownBlock) : OnSt W tb b T2 R cl2 v' (its ++ m) w2 :=
  have hl := h.lo
  have hb := h.bs
  have hI := (h.acc.it.only f.only fun k hk => by rw [hk]; omega).own
  have hB : Below W.heap.size W w1 := ((Only.of_below h.bel (fun k => k = b)).trans f.only fun _ _ x => x).below (Nat.le_refl _) fun i hi e => by omega
  { bel := below_append hB (World.ownsRow.mono hI (by omega)) hg hB.size
    acc := h.acc.more f.it f.inn (by omega) f.fed f.only f.few hg hr
    tab := tab_grow (h.tab.only f.only (by omega)) hI (by omega) hg
    lo := hl
    bs := Nat.lt_of_lt_of_le hb (Nat.le_trans f.only.size hg.size) }
end Go.Proofs.Ythdenjokedmcfaa
