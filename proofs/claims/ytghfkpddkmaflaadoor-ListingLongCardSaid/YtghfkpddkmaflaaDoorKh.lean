/- Walks of layer 11's laws ListingPrints, ListingBack. Conditions: the library's variables' data. -/
import Derived.Test.YtghfkpddkmaflaaDoorKg
namespace Go.Proofs.YtghfkpddkmaflaaDoor
open Go Go.RowKit
set_option linter.unusedVariables false
set_option linter.unusedSimpArgs false
set_option maxRecDepth 20000
theorem own_zero' {B : Nat} (w : World) (t : TypeId) (n : Nat) (h : B ≤ w.heap.size) : (w.alloc (.cells #[] t)).ownsRow B t n (.slice (some ⟨w.heap.size, 0, none⟩) 0 0) 0 [] :=
  ⟨by simp, Or.inr ⟨w.heap.size, 0, _, rfl, h, heap_alloc_new w _, Nat.le_refl _, Nat.zero_le _, by simp, by simp⟩⟩
theorem pz_getD (z : Nat → Ins) (n i : Nat) (h : i < n) : (pz z n).getD i default = z i := by
  unfold pz
  rw [List.getD_eq_getElem?_getD, List.getElem?_map, List.getElem?_range h]
  rfl
theorem insCells_one (l : List Ins) : ∀ u ∈ insCells l, u.oneCell' = true := by
  intro u hu
  unfold insCells at hu
  obtain ⟨i, _, h2⟩ := List.mem_flatMap.1 hu
  exact ins_one i u h2
/-- A slice that came in, as a source of an append. -/
theorem src_arg {w : World} {oa : Option Addr} {len cap : Nat} {z : Nat → Ins} (h : SlArgN w oa len cap 6 (fun i j => (z i).f j)) (hn : oa = none → cap = 0) : Src w (.slice oa len cap) len (insCells (pz z len)) := by
  cases oa with
  | none =>
    have h0 := hn rfl
    have hl : len = 0 := by have := h.1; omega
    subst h0 hl
    exact .inl ⟨rfl, rfl, rfl⟩
  | some ad =>
    refine .inr ⟨ad, cap, rfl, fun j u hj => ?_⟩
    have hlt : j < len * 6 := by
      have := List.getElem?_eq_some_iff.1 hj
      obtain ⟨h1, _⟩ := this
      rw [insCells_length, pz_len] at h1
      exact h1
    have hi : j / 6 < len := by omega
    have hm : j % 6 < 6 := Nat.mod_lt _ (by decide)
    have hat := insCells_at (pz z len) (j / 6) (j % 6) (by rw [pz_len]; exact hi) hm
    rw [show j / 6 * 6 + j % 6 = j by omega, hj, pz_getD z len _ hi] at hat
    obtain ⟨b, off, h1, _, h3⟩ := h.2.2 (j / 6) hi
    cases h1
    have := h3 (j % 6) hm
    rw [Go.WideShapes.add_plain, hat]
    rw [show off + j / 6 * 6 + j % 6 = off + j by omega] at this
    exact this
theorem slArgN_own' {w : World} {base t cap n : Nat} {ao : Option Addr} {l : List Ins} (hn : n = l.length) (h : w.ownsRow base t 6 (.slice ao n cap) n (insCells l)) : SlArgN w ao n cap 6 (fun i j => (l.getD i default).f j) := by
  subst hn
  exact slArgN_own h
theorem sl_kept {W w' : World} {oa : Option Addr} {len cap c : Nat} {F : Nat → Nat → Value} (h : SlArgN W oa len cap c F) (k : Below W.heap.size W w') : SlArgN w' oa len cap c F :=
  ⟨h.1, h.2.1, fun i hi => by obtain ⟨b, off, h1, h2, h3⟩ := h.below k (Nat.le_refl _) hi; exact ⟨b, off, h1, Nat.lt_of_lt_of_le h2 k.size, h3⟩⟩
set_option maxHeartbeats 4000000 in
theorem listingPrints_law (oa : Option Addr) (len cap : Nat) (z : Nat → Ins) (W : World) (g : Gl W) (h1 : SlArgN W oa len cap 6 (fun i j => (z i).f j)) (_hc : cap * 48 ≤ 140737488351232) (hx : (∀ i, i < len → (z i).Wf) ∧ (oa = none → cap = 0)) : Calls Tryd.prog 7 #[.slice oa len cap] W fun x W' => x = .returned (.bool true) ∧ Below W.heap.size W W' := by
  obtain ⟨i0, hi, hz0, hz1, hz2⟩ := ins_info
  obtain ⟨hz, hno⟩ := hx
  go_enter Tryd.func7, Tryd.ntmps7
  go_wp2_with fail
  refine (awake11_any _ g).mono ?_
  rintro e w2 ⟨rfl, hB2⟩
  have g2 := g.on hB2
  by_cases hlen : 300 < len
  · have hlI : (300 : Int) < len := by omega
    clear hlen
    go_wp2_with fail
    refine (awake11_any _ g2).mono ?_
    rintro e w3 ⟨rfl, hk⟩
    go_wp2_with fail
    go_ret
    exact ⟨rfl, bel_next hB2 hk⟩
  · have hlI : ¬ (300 : Int) < len := by omega
    have hl300 : len ≤ 300 := by omega
    clear hlen
    have hk0 := (Below.refl w2.heap.size w2).alloc (Nat.le_refl _) (.cells #[] 24)
    have hB3 := bel_next hB2 hk0
    have hown := own_zero' w2 24 6 hB2.size
    have hsrc := src_arg (sl_kept h1 hB3) hno
    have hP := fun x gx oa' cap' h => lprint_any x gx oa' len cap' z h hz (by omega)
    have hQ := fun x h => rprint_any x oa len cap z h hz (by omega)
    go_wp2_with (at_builtin; (refine list_append rfl (.tmp 16) (.tmp 17) 36 rfl W.heap.size hB3.size 24 i0 _ 6 48 ul_ins hi hz0 hz1 hz2 rfl (by decide) _ 0 [] rfl hown _ len (insCells (pz z len)) rfl (by rw [insCells_length, pz_len]) hsrc (insCells_one _) (by unfold maxLen; omega) (by omega) ?_); intro ao cp w4 hown' hg hat; simp only [Nat.zero_add, List.nil_append] at hown' ⊢; have hB4 := below_append hB3 hown hg hB3.size; clear hg hat)
    have hsl : SlArgN w4 ao len cp 6 (fun i j => (z i).f j) := (slArgN_own' (pz_len z len).symm hown').congr fun i hi j _ => by rw [pz_getD z len i hi]
    have hP := hP w4 (g.on hB4) ao cp hsl
    clear hown hsrc hB3 hk0 hB2 g2 hown' hsl
    generalize (prP (pz z len)).2 = e at hP hQ
    generalize txB (prP (pz z len)).1 = s at hP hQ
    refine hP.mono ?_
    rintro x w5 ⟨rfl, hk5⟩
    have hB5 := bel_next hB4 hk5
    have hQ := hQ w5 (sl_kept h1 hB5)
    clear hB4 hk5 hP
    go_wp2_with fail
    refine hQ.mono ?_
    rintro x w6 ⟨rfl, hk6⟩
    have hB6 := bel_next hB5 hk6
    go_wp2_with fail
    go_ret
    exact ⟨rfl, hB6⟩
theorem prT_len (P : List Ins) (h : ∀ i ∈ P, i.Wf ∧ i.chk = 0) : (prT P).length ≤ 157 * P.length := by
  induction P with
  | nil => exact Nat.le_refl _
  | cons i P ih =>
    have h1 := lin_len i (h i List.mem_cons_self).1 (h i List.mem_cons_self).2
    have h2 := ih fun j hj => h j (List.mem_cons_of_mem _ hj)
    show (lin i ++ 10 :: prT P).length ≤ _
    rw [List.length_append, List.length_cons, List.length_cons]
    omega
theorem prP_size {P : List Ins} (hw : ∀ i ∈ P, i.Wf) : (prP P).1.length ≤ 40192 := by
  unfold prP
  split
  · exact Nat.zero_le _
  · rename_i hn
    split
    · rename_i h0
      have := prT_len P fun i hi => ⟨hw i hi, (prErr_zero P).1 h0 i hi⟩
      show (prT P).length ≤ _
      omega
    · exact Nat.zero_le _
theorem rdT_len (T : List UInt8) : (rdT T).1.length ≤ 256 := by
  by_cases h : (rdT T).2.2 = 0
  · have := rdP_back _ _ _ h
    have h2 := this.2.2.1
    have h3 := congrArg List.length this.2.1
    rw [List.length_map] at h3
    show (rdP _ _ 0).1.length ≤ 256
    omega
  · rw [show (rdT T).1 = [] from rdP_err _ _ _ h]
    decide
theorem pz_self (l : List Ins) : pz (fun i => l.getD i default) l.length = l := by
  apply List.ext_getElem?
  intro i
  unfold pz
  by_cases h : i < l.length
  · rw [List.getElem?_map, List.getElem?_range h]
    simp [List.getD_eq_getElem?_getD, h]
  · rw [List.getElem?_eq_none (by simp; omega), List.getElem?_eq_none (by omega)]
set_option maxHeartbeats 4000000 in
theorem listingBack_law (oa : Option Addr) (len cap : Nat) (z : Nat → Ins) (text : ByteArray) (W : World) (g : Gl W) (h1 : SlArgN W oa len cap 6 (fun i j => (z i).f j)) (_hc : cap * 48 ≤ 140737488351232) (hx : (∀ i, i < len → (z i).Wf) ∧ (oa = none → cap = 0)) (_hl : text.size ≤ maxLen) : Calls Tryd.prog 8 #[.slice oa len cap, .string text] W fun x W' => x = .returned (.bool true) ∧ Below W.heap.size W W' := by
  obtain ⟨i0, hi, hz0, hz1, hz2⟩ := ins_info
  obtain ⟨hz, hno⟩ := hx
  go_enter Tryd.func8, Tryd.ntmps8
  go_wp2_with fail
  refine (awake11_any _ g).mono ?_
  rintro e w2 ⟨rfl, hB2⟩
  have g2 := g.on hB2
  by_cases hlen : 300 < len
  · have hlI : (300 : Int) < len := by omega
    clear hlen
    go_wp2_with fail
    refine (awake11_any _ g2).mono ?_
    rintro e w3 ⟨rfl, hk⟩
    go_wp2_with fail
    go_ret
    exact ⟨rfl, bel_next hB2 hk⟩
  · have hlI : ¬ (300 : Int) < len := by omega
    have hl300 : len ≤ 300 := by omega
    clear hlen
    by_cases htx : 4000 < text.size
    · have htI : (4000 : Int) < text.size := by omega
      clear htx
      go_wp2_with fail
      refine (awake11_any _ g2).mono ?_
      rintro e w3 ⟨rfl, hk⟩
      go_wp2_with fail
      go_ret
      exact ⟨rfl, bel_next hB2 hk⟩
    · have htI : ¬ (4000 : Int) < text.size := by omega
      have hk0 := (Below.refl w2.heap.size w2).alloc (Nat.le_refl _) (.cells #[] 24)
      have hB3 := bel_next hB2 hk0
      have hown := own_zero' w2 24 6 hB2.size
      have hsrc := src_arg (sl_kept h1 hB3) hno
      have hwm : ∀ i ∈ pz z len, i.Wf := fun i hi => by obtain ⟨k, hk, rfl⟩ := pz_mem.1 hi; exact hz k hk
      have hP := fun x gx oa' cap' h => lprint_any x gx oa' len cap' z h hz (by omega)
      have hps := prP_size hwm
      have HRD := Lib.hid (fun h => rd_pr hwm h)
      go_wp2_with (at_builtin; (refine list_append rfl (.tmp 29) (.tmp 30) 36 rfl W.heap.size hB3.size 24 i0 _ 6 48 ul_ins hi hz0 hz1 hz2 rfl (by decide) _ 0 [] rfl hown _ len (insCells (pz z len)) rfl (by rw [insCells_length, pz_len]) hsrc (insCells_one _) (by unfold maxLen; omega) (by omega) ?_); intro ao cp w4 hown' hg hat; simp only [Nat.zero_add, List.nil_append] at hown' ⊢; have hB4 := below_append hB3 hown hg hB3.size; clear hg hat)
      have hsl : SlArgN w4 ao len cp 6 (fun i j => (z i).f j) := (slArgN_own' (pz_len z len).symm hown').congr fun i hi j _ => by rw [pz_getD z len i hi]
      have hP := hP w4 (g.on hB4) ao cp hsl
      clear hown hsrc hB3 hk0 hB2 g2 hown' hsl
      have HRD := Lib.hid (show (prP (pz z len)).2 = 0 → rdT (txB (prP (pz z len)).1).data.toList = (pz z len, 0, 0) from fun h => HRD.out h)
      rw [← txB_size] at hps
      generalize (prP (pz z len)).2 = e at hP HRD
      generalize txB (prP (pz z len)).1 = s at hP HRD hps
      refine hP.mono ?_
      rintro x w5 ⟨rfl, hk5⟩
      have hB5 := bel_next hB4 hk5
      clear hB4 hk5 hP
      have g5 := g.on hB5
      have h15 := sl_kept h1 hB5
      go_upto_region 4 with fail
      go_upto_if 36 with fail
      go_cut [36] (fun _ wx => Below W.heap.size W wx)
      case first =>
        by_cases he : e = 0
        · have hR := lread_any s (by omega) w5 g5
          rw [HRD.out he] at hR
          have d0 : (e == 0) = true := by rw [he]; rfl
          clear he
          go_wp2_with fail
          refine hR.mono ?_
          rintro x w6 ⟨ab, cb, rfl, hown6, hk6⟩
          have hB6 := bel_next hB5 hk6
          have hs6 := (slArgN_own hown6).congr (G := fun i j => (z i).f j) fun i hi j _ => by rw [pz_len] at hi; rw [pz_getD z len i hi]
          rw [pz_len] at hs6
          have hsm := rsame_eq w6 ab oa len cb cap z hs6 (sl_kept h1 hB6) (by omega)
          simp only [pz_len]
          clear hs6 hown6 hk6 hB5 hR
          go_wp2_with fail
          refine hsm.mono ?_
          rintro x w7 ⟨rfl, m, rfl⟩
          go_wp2_with fail
          go_meet
          exact below_drewN hB6 m
        · have d0 : (e == 0) = false := beqF he
          clear he
          go_wp2_with fail
          go_meet
          exact hB5
      case rest =>
        clear hB5 g5 h15 HRD
        have gc := g.on hcut
        have hR := lread_any text (by omega) wc gc
        have HPR := Lib.hid (fun h => pr_rd (l := text.data.toList) h)
        have HER := Lib.hid (fun h => rdP_err (spl text.data.toList).1 (spl text.data.toList).2 0 h)
        have hm := rdT_len text.data.toList
        have HER := Lib.hid (show (rdT text.data.toList).2.2 ≠ 0 → (rdT text.data.toList).1 = [] from HER.out)
        generalize rdT text.data.toList = R at hR HPR HER hm
        obtain ⟨l, at', e2⟩ := R
        simp only at hm
        have HPR := Lib.hid (show e2 = 0 → prP l = (text.data.toList, 0) ∧ ∀ i ∈ l, i.Wf from HPR.out)
        have HER := Lib.hid (show e2 ≠ 0 → l = [] from HER.out)
        go_wp2_with fail
        refine hR.mono ?_
        rintro x w6 ⟨ab, cb, rfl, hown6, hk6⟩
        have hB6 := bel_next hcut hk6
        simp only at hown6 ⊢
        clear hcut hk6 hR gc
        by_cases h0 : e2 = 0
        · obtain ⟨hp, hw2⟩ := HPR.out h0
          have d0 : (e2 != 0) = false := by rw [h0]; rfl
          have hpz := pz_self l
          have hP := lprint_any w6 (g.on hB6) ab l.length cb (fun i => l.getD i default) (slArgN_own hown6) (fun i hi => by rw [List.getD_eq_getElem?_getD, List.getElem?_eq_getElem hi]; exact hw2 _ (List.getElem_mem hi)) (by omega)
          rw [hpz, hp] at hP
          have ht : txB (text.data.toList, (0 : Int)).1 = text := by simp [txB]
          rw [ht] at hP
          clear h0 hp hw2 hpz ht hown6 HPR HER
          generalize l.length = n at *
          go_wp2_with fail
          refine hP.mono ?_
          rintro x w7 ⟨rfl, hk7⟩
          go_wp2_with fail
          go_ret
          exact ⟨rfl, bel_next hB6 hk7⟩
        · have d0 : (e2 != 0) = true := by rw [bne_iff_ne]; exact h0
          obtain rfl := HER.out h0
          clear h0 hown6
          go_wp2_with fail
          go_ret
          exact ⟨rfl, hB6⟩
end Go.Proofs.YtghfkpddkmaflaaDoor
