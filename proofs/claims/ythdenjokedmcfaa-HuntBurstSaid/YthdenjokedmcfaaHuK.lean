/- A hunter and what it told, put one behind the other. No condition but those that each names. -/
import Derived.Test.YthdenjokedmcfaaHuL1
import Derived.Deep.DeepCutAuto
namespace Go.Proofs.Ythdenjokedmcfaa
open Go.RowKit
set_option linter.unusedVariables false
set_option linter.unusedSimpArgs false
set_option maxRecDepth 20000
/-- The texts, one behind the other. -/
def catG (F : Nat → ByteArray) : Nat → ByteArray
  | 0 => ⟨#[]⟩
  | k + 1 => catG F k ++ F k
theorem gsum_mono (F : Nat → ByteArray) (len : Nat) (j k : Nat) (hjk : j ≤ k) : gsum F len j ≤ gsum F len k := by
  induction k with
  | zero => rw [show j = 0 by omega]; exact Nat.le_refl _
  | succ k ih =>
    rcases Nat.lt_or_ge k j with h1 | h1
    · rw [show j = k + 1 by omega]; exact Nat.le_refl _
    · have := ih h1; rw [gsum]; omega
theorem catG_great {F : Nat → ByteArray} {len : Nat} (h : gsum F len len ≤ 4000) : ∀ k, k ≤ len → (catG F k).size + len ≤ gsum F len k ∧ (catG F k).size ≤ 4000 := by
  intro k
  induction k with
  | zero => intro _; exact ⟨by rw [gsum, catG]; show 0 + len ≤ len; omega, by rw [catG]; exact Nat.zero_le _⟩
  | succ k ih =>
    intro hk
    obtain ⟨h1, h2⟩ := ih (by omega)
    have h3 := gsum_mono F len (k + 1) len hk
    have h4 : gsum F len (k + 1) = gsum F len k + min (F k).size 65536 := rfl
    have h5 : (catG F (k + 1)).size = (catG F k).size + (F k).size := ByteArray.size_append
    omega
theorem nil_app (s : ByteArray) : (⟨#[]⟩ : ByteArray) ++ s = s := by
  have e : ((⟨#[]⟩ : ByteArray) ++ s).data.toList = s.data.toList := by simp
  exact (ba_eq e).trans (ba_eq rfl).symm
/-- There are few items, of few events each. -/
def ItsOk (S : HS) : Prop := S.its.length ≤ 2 * S.p ∧ ∀ x ∈ S.its, x.2.2.2.length ≤ 120
theorem itsOk_fin {X : ByteArray} {cl : Bool} {S : HS} (h : ItsOk S) : ItsOk (hfin X cl S) := by
  refine hfin_ind (Q := ItsOk) ?_ S h
  rintro T ⟨h1, h2⟩ hs
  have hp := (hstop_no hs).1
  have hn := (hnext_p hp).1
  unfold hnext at hn ⊢
  split
  · exact ⟨by simp only; omega, h2⟩
  · rename_i hk
    rw [if_neg hk] at hn
    unfold hskip at hk
    simp at hk
    obtain ⟨r1, r2, r3, r4⟩ : ∃ a b c, frR X T.p = (0, a, b, c) := ⟨_, _, _, by rw [← hk.1]⟩
    have hok := (frR_ok (Nat.le_of_lt hp) r4).2.2.2.2.2.2
    have hok1 := (frR_ok (Nat.le_of_lt hp) r4).1
    rw [r4] at hn ⊢
    simp only at hn ⊢
    refine ⟨?_, fun x hx => ?_⟩
    · simp only [List.length_append]
      have : (told T.nx r1 r2).length ≤ 2 := by
        unfold told gapI
        split <;> simp
      omega
    · rcases List.mem_append.1 hx with hx | hx
      · exact h2 x hx
      · unfold told gapI at hx
        rcases List.mem_append.1 hx with hx | hx
        · split at hx
          · obtain rfl : x = _ := by simpa using hx
            exact Nat.zero_le _
          · cases hx
        · obtain rfl : x = _ := by simpa using hx
          exact hok
/-- A hunter that was fed T, not closed; closed. -/
def gO (T : ByteArray) : HS := hfin T false hs0
def gC (T : ByteArray) : HS := hfin T true hs0
theorem gO_nil : gO ⟨#[]⟩ = hs0 := hfin_stop (by unfold hstop; simp; exact Or.inl (Nat.le_refl _))
theorem gO_app (T s : ByteArray) : hfin (T ++ s) false (gO T) = gO (T ++ s) := (pre_app T s).fin false hs0 (Nat.zero_le _)
theorem gC_of (T : ByteArray) : hfin T true (gO T) = gC T := Pre.fin ⟨[], by simp⟩ true hs0 (Nat.zero_le _)
theorem hs0_ok : ItsOk hs0 := ⟨Nat.le_refl _, fun x hx => by cases hx⟩
theorem gO_few (T : ByteArray) : ItsOk (gO T) ∧ (gO T).p ≤ T.size := ⟨itsOk_fin hs0_ok, (HS.Ok.fin (S := hs0) ⟨Nat.zero_le _, by decide, Nat.le_refl _⟩).p⟩
theorem gC_few (T : ByteArray) : ItsOk (gC T) ∧ (gC T).p ≤ T.size := ⟨itsOk_fin hs0_ok, (HS.Ok.fin (S := hs0) ⟨Nat.zero_le _, by decide, Nat.le_refl _⟩).p⟩
/-- A hunter, and all items that it told, put one behind the other. -/
structure Acc (w : World) (lo b tb : Nat) (T : ByteArray) (G : HS) (cl : Bool) (v : Value) (its : List Itm) : Prop where
  fed : Fed w b tb T G cl
  it : ItIn w lo v its
  map : its.map Itm.p = G.its
  few : ItsOk G
  lob : b < lo
theorem Acc.below {w w' : World} {lo b tb : Nat} {T : ByteArray} {G : HS} {cl : Bool} {v : Value} {its : List Itm} (h : Acc w lo b tb T G cl v its) (k : Below w.heap.size w w') : Acc w' lo b tb T G cl v its := { h with fed := h.fed.below k, it := h.it.below k }
theorem Acc.only {S : Nat → Prop} {w w' : World} {lo b tb : Nat} {T : ByteArray} {G : HS} {cl : Bool} {v : Value} {its : List Itm} (h : Acc w lo b tb T G cl v its) (o : Only S w w') (hb : ¬ S b) (hS : ∀ k, S k → k < lo) : Acc w' lo b tb T G cl v its := { h with fed := h.fed.only o hb, it := h.it.only o hS }
theorem Acc.few_len {w : World} {lo b tb : Nat} {T : ByteArray} {G : HS} {cl : Bool} {v : Value} {its : List Itm} (h : Acc w lo b tb T G cl v its) (hT : T.size ≤ 4000) : its.length ≤ 8000 ∧ ∀ x ∈ its, x.evs.length ≤ 120 := by
  obtain ⟨g1, g2⟩ := h.few
  have hp := h.fed.ok.p
  rw [← h.map] at g1 g2
  rw [List.length_map] at g1
  exact ⟨by omega, fun x hx => g2 x.p (List.mem_map_of_mem hx)⟩
/-- What was told is put behind. -/
theorem Acc.more {w w1 w2 : World} {lo b tb : Nat} {T T2 : ByteArray} {G R : HS} {cl cl2 : Bool} {v v' : Value} {its m : List Itm} {ao : Option Addr} {cap lo2 : Nat} (h : Acc w lo b tb T G cl v its) (hm : R.its = G.its ++ m.map Itm.p) (hi : ItIn w1 lo2 (.slice ao m.length cap) m) (hl : lo ≤ lo2) (hf : Fed w1 b tb T2 R cl2) (ho : Only (fun k => k = b) w w1) (hfew : ItsOk R)
    (hg : w1.grownBy w2 v.ownBlock) (hr : w2.ownsRow lo 44 4 v' (its.length + m.length) (itCells its ++ itCells m)) : Acc w2 lo b tb T2 R cl2 v' (its ++ m) :=
  have hl9 := h.lob
  have h1 := h.it.only ho fun k hk => by rw [hk]; exact hl9
  { fed := { hf with hu := hf.hu.grow h1.own hl9 hg }
    it := h1.grow (fun x hx => (hi.evs x hx).mono hl) hg hr
    map := by rw [List.map_append, h.map, hm]
    few := hfew
    lob := hl9 }
theorem tab_grow {w w' : World} {tb base : Nat} {e : TypeId} {size : Nat} {v : Value} {n : Nat} {xs : List Value} (h : IsTab w tb) (hI : w.ownsRow base e size v n xs) (hb : tb < base) (hg : w.grownBy w' v.ownBlock) : IsTab w' tb := by
  obtain ⟨C, h1, h2⟩ := h
  exact ⟨C, (hg.block tb (blk_lt h1) fun x => by have := (hI.lt tb x.symm).1; omega).trans h1, h2⟩
theorem acc_grow {w w' : World} {lo b tb : Nat} {T : ByteArray} {G : HS} {cl : Bool} {v u : Value} {its : List Itm} {n : Nat} {xs : List Value} (h : Acc w lo b tb T G cl v its) (hI : w.ownsRow lo 44 4 u n xs) (hne : ∀ k, v.ownBlock = some k → u.ownBlock ≠ some k) (hg : w.grownBy w' u.ownBlock) : Acc w' lo b tb T G cl v its :=
  { h with
    fed := { h.fed with hu := h.fed.hu.grow hI h.lob hg }
    it := ⟨by
      rcases h.it.own.2 with h0 | ⟨g, cap, cur, e1, hbg, hb, hr⟩
      · exact ⟨h.it.own.1, .inl h0⟩
      · refine ⟨h.it.own.1, .inr ⟨g, cap, cur, e1, hbg, (hg.block g (blk_lt hb) fun x => ?_).trans hb, hr⟩⟩
        exact hne g (by rw [e1]; rfl) x.symm, fun x hx => ⟨(h.it.evs x hx).1, own_grow (h.it.evs x hx).2 hI (by decide) hg⟩⟩ }
end Go.Proofs.Ythdenjokedmcfaa
