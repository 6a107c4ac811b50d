/- The walk of the statement of layer 9: HuntPlays. -/
import Derived.Test.YthdenjokedmcfaaHuL1
import Derived.Deep.RegionHeld3
import Derived.Deep.RegionWith
import Derived.Deep.QuietTactic
import Derived.BigQuiet
import Derived.Deep.DeepCutAuto
import Derived.RegionTactic
import Derived.BigRegion
namespace Go.Proofs.Ythdenjokedmcfaa
open Go.RowKit
set_option linter.unusedVariables false
set_option linter.unusedSimpArgs false
set_option maxRecDepth 20000
/-- The texts, one behind the other. -/
def catF (F : Nat → ByteArray) : Nat → ByteArray
  | 0 => ⟨#[]⟩
  | k + 1 => catF F k ++ F k
theorem catF_great {F : Nat → ByteArray} {len : Nat} (h : gsum F len len ≤ 4000) : ∀ k, k ≤ len → (catF F k).size + len ≤ gsum F len k ∧ (catF F k).size ≤ 4000 := by
  have mono : ∀ j k, j ≤ k → gsum F len j ≤ gsum F len k := by
    intro j k hjk
    induction k with
    | zero => rw [show j = 0 by omega]; exact Nat.le_refl _
    | succ k ih =>
      rcases Nat.lt_or_ge k j with h1 | h1
      · rw [show j = k + 1 by omega]; exact Nat.le_refl _
      · have := ih h1; rw [gsum]; omega
  intro k
  induction k with
  | zero => intro _; exact ⟨by rw [gsum, catF]; show 0 + len ≤ len; omega, by rw [catF]; exact Nat.zero_le _⟩
  | succ k ih =>
    intro hk
    obtain ⟨h1, h2⟩ := ih (by omega)
    have h3 := mono (k + 1) len hk
    have h4 : gsum F len (k + 1) = gsum F len k + min (F k).size 65536 := rfl
    have h5 : (catF F (k + 1)).size = (catF F k).size + (F k).size := ByteArray.size_append
    omega
/-- How a hunter stands behind j calls: len pieces, and the close. -/
def tt (F : Nat → ByteArray) (len j : Nat) : ByteArray := catF F (min j len)
def clo (len j : Nat) : Bool := decide (len < j)
def gg (F : Nat → ByteArray) (len : Nat) : Nat → HS
  | 0 => hs0
  | j + 1 => hfin (tt F len (j + 1)) (clo len (j + 1)) (gg F len j)
theorem tt_lt {F : Nat → ByteArray} {len j : Nat} (h : j < len) : tt F len (j + 1) = tt F len j ++ F j := by
  unfold tt
  rw [show min (j + 1) len = j + 1 by omega, show min j len = j by omega]
  rfl
theorem tt_ge {F : Nat → ByteArray} {len j : Nat} (h : len ≤ j) : tt F len (j + 1) = tt F len j := by
  unfold tt
  rw [show min (j + 1) len = len by omega, show min j len = len by omega]
/-- There are few items, of few events each. -/
def ItsOk (S : HS) : Prop := S.its.length ≤ 2 * S.p ∧ ∀ x ∈ S.its, x.2.2.2.length ≤ 120
theorem itsOk_fin {X : ByteArray} {cl : Bool} {S : HS} (h : ItsOk S) : ItsOk (hfin X cl S) := by
  refine hfin_ind (Q := ItsOk) ?_ S h
  rintro T ⟨h1, h2⟩ hs
  have hp := (hstop_no hs).1
  have hn := (hnext_p hp).1
  unfold hnext at hn ⊢
  split
  · exact ⟨by simp only; omega, h2⟩
  · rename_i hk
    rw [if_neg hk] at hn
    unfold hskip at hk
    simp at hk
    obtain ⟨r1, r2, r3, r4⟩ : ∃ a b c, frR X T.p = (0, a, b, c) := ⟨_, _, _, by rw [← hk.1]⟩
    have hok := (frR_ok (Nat.le_of_lt hp) r4).2.2.2.2.2.2
    have hok1 := (frR_ok (Nat.le_of_lt hp) r4).1
    rw [r4] at hn ⊢
    simp only at hn ⊢
    refine ⟨?_, fun x hx => ?_⟩
    · simp only [List.length_append]
      have : (told T.nx r1 r2).length ≤ 2 := by
        unfold told gapI
        split <;> simp
      omega
    · rcases List.mem_append.1 hx with hx | hx
      · exact h2 x hx
      · unfold told gapI at hx
        rcases List.mem_append.1 hx with hx | hx
        · split at hx
          · obtain rfl : x = _ := by simpa using hx
            exact Nat.zero_le _
          · cases hx
        · obtain rfl : x = _ := by simpa using hx
          exact hok
theorem gg_ok (F : Nat → ByteArray) (len : Nat) : ∀ j, ItsOk (gg F len j)
  | 0 => ⟨Nat.le_refl _, fun x hx => by cases hx⟩
  | j + 1 => itsOk_fin (gg_ok F len j)
theorem gg_in (F : Nat → ByteArray) (len : Nat) : ∀ j, (gg F len j).p ≤ (tt F len (j + 1)).size ∧ ((gg F len j).nx ≤ 4294967296 ∧ (gg F len j).lo ≤ (gg F len j).nx) ∧ (gg F len j).sk ≤ (tt F len (j + 1)).size := by
  have mono : ∀ j, (tt F len j).size ≤ (tt F len (j + 1)).size := by
    intro j
    rcases Nat.lt_or_ge j len with h | h
    · rw [tt_lt h, ByteArray.size_append]; omega
    · rw [tt_ge h]; exact Nat.le_refl _
  intro j
  have key : ∀ j, (gg F len j).Ok (tt F len j) ∧ (gg F len j).sk ≤ (gg F len j).p := by
    intro j
    induction j with
    | zero => exact ⟨⟨Nat.zero_le _, by show (0 : Nat) ≤ 4294967296; omega, Nat.le_refl _⟩, Nat.le_refl _⟩
    | succ j ih =>
      obtain ⟨h1, h2⟩ := ih
      have h3 : (gg F len j).Ok (tt F len (j + 1)) := ⟨Nat.le_trans h1.p (mono j), h1.nx, h1.lo⟩
      exact ⟨h3.fin, hsk_fin h2⟩
  obtain ⟨h1, h2⟩ := key j
  have := mono j
  have := h1.p
  exact ⟨by omega, ⟨h1.nx, h1.lo⟩, by omega⟩
/-- Where the law stands. -/
structure PlSt (W : World) (b tb m : Nat) (T : ByteArray) (G : HS) (cl : Bool) (wr : World) : Prop where
  bel : Below W.heap.size W wr
  fed : Fed wr b tb T G cl
  rh : IsRh wr m T G.p G.nx G.sk G.lo cl
  tab : IsTab wr tb
  lo : W.heap.size ≤ tb
  tbb : tb < b
  bm : b < m
/-- A region that stands at its operation k: what is left only reads: it is walked in the text's order. -/
theorem wpAny_lexq {P : Program} {md : Region.Mode} {ops l : List Oper} {Q : Exit → Act → World → Prop} {w : World} {a : Act} {k fuel : Nat} {listed : Array Bool} (hs : Region.noSelect ops.toArray = true) (hl : ops.drop k = l) (hf : l.length = fuel) (hB : Region.lexFrom md ops.toArray l.length k listed = true)
    (h : wpQuiet P ops.toArray (fun w' => ∃ n, w' = w.drewN n) (fun a' => ∀ w', (∃ n, w' = w.drewN n) → Q .normal a' w') l a) : wpAny P md ops.toArray Q fuel listed a w := by
  subst hl hf
  refine wpAny_of_quiet (C := fun w' => ∃ n, w' = w.drewN n) (Q := fun a' => ∀ w', (∃ n, w' = w.drewN n) → Q .normal a' w') (fun _ w' hw' h => h w' hw') _ _ _ _ ⟨0, rfl⟩ ?_
  exact wpAnyQ_lex hs _ k listed a (fun j => by simp [List.getElem?_drop]) hB h
theorem PlSt.drewN {W : World} {b tb m : Nat} {T : ByteArray} {G : HS} {cl : Bool} {wr : World} (h : PlSt W b tb m T G cl wr) (n : Nat) : PlSt W b tb m T G cl (wr.drewN n) :=
  { h with bel := below_drewN h.bel n, fed := h.fed.below (kept_drewN wr n), rh := h.rh.below (kept_drewN wr n), tab := h.tab.kept (kept_drewN wr n) }
theorem plSt_end {W wc wG : World} {b tb m : Nat} {T : ByteArray} {G : HS} {cl : Bool} (hbw : Below W.heap.size W wc) (hlo : W.heap.size ≤ tb) (htbb : tb < b) (hbm : b < m) (hf : Fed wG b tb T G cl) (hr : IsRh wG m T G.p G.nx G.sk G.lo cl) (ht : IsTab wc.drew tb) (ho : Only (fun k => k = m) wc.drew wG) (n : Nat) : PlSt W b tb m T G cl (wG.drewN n) :=
  have hb : Below W.heap.size W wG := ((Only.of_below hbw.drew (fun k => k = m)).trans ho fun _ _ x => x).below (Nat.le_refl _) fun i hi h => by omega
  { bel := below_drewN hb n
    fed := hf.below (kept_drewN wG n)
    rh := hr.below (kept_drewN wG n)
    tab := (ht.only ho (by omega)).kept (kept_drewN wG n)
    lo := hlo
    tbb := htbb
    bm := hbm }
set_option maxHeartbeats 8000000 in
theorem huntPlays_law (oa : Option Addr) (len cap : Nat) (F : Nat → ByteArray) (W : World) (h : SlArg W oa len cap (fun i => .string (F i))) (hz : cap * 16 ≤ 140737488351232) (_hx : ∀ i, i < len → (F i).size ≤ maxLen) :
    Calls Try.prog 3 #[.slice oa len cap] W fun e W' => e = .returned (.bool true) ∧ Below W.heap.size W W' := by
  have HH := Lib.hid (And.intro h hz)
  have hl0 : len ≤ cap ∧ cap ≤ maxLen := ⟨h.1, h.2.1⟩
  have hl1 : len ≤ 8796093021952 := by omega
  clear h hz _hx
  go_enter Try.func3, Try.ntmps3
  go_wp2_with fail
  refine (make_any W).mono ?_
  rintro x w1 ⟨rfl, hT, hk1⟩
  obtain ⟨tb, htb⟩ : ∃ tb, tb = W.heap.size := ⟨_, rfl⟩
  rw [← htb] at hT ⊢
  have HTB := Lib.hid htb
  clear htb
  go_wp2_with fail
  refine (hnew_any w1 tb).mono ?_
  rintro x w2 ⟨rfl, hH, hk⟩
  have hT2 := hT.kept hk
  have hB2 := hk1.trans (hk.mono hk1.size)
  have htl : tb < w1.heap.size := by obtain ⟨C, h1, _⟩ := hT; exact blk_lt h1
  clear hT hk hk1
  obtain ⟨b, hb⟩ : ∃ b, b = w1.heap.size := ⟨_, rfl⟩
  rw [← hb] at hH htl ⊢
  clear hb
  go_wp2_with fail
  refine (awake9 w2).mono ?_
  rintro x w3 ⟨rfl, hk⟩
  have hT3 := hT2.kept hk
  have hH3 := hH.below hk
  have hB3 := hB2.trans (hk.mono hB2.size)
  clear hT2 hH hB2 hk
  have hg := great9_any w3 oa len cap F ⟨HH.out.1.1, HH.out.1.2.1, fun i hi => by
    obtain ⟨b', off, e1, e2, e3⟩ := HH.out.1.2.2 i hi
    exact ⟨b', off, e1, Nat.lt_of_lt_of_le e2 hB3.size, (hB3.cell e2).trans e3⟩⟩ HH.out.2
  go_wp2_with fail
  refine hg.mono ?_
  rintro x w4 ⟨⟨n, rfl, hn⟩, rfl⟩
  clear hg
  by_cases hgr : 4000 < n
  · have hgr' : (4000 : Int) < (n : Int) := by omega
    go_wp2_with fail
    go_ret
    exact ⟨rfl, hB3⟩
  · have hgr' : ¬ (4000 : Int) < (n : Int) := by omega
    have HG := Lib.hid (hn (by omega))
    clear hn
    go_upto_region 7 with fail
    obtain ⟨m, hm⟩ : ∃ m, m = w3.heap.size := ⟨_, rfl⟩
    have hal := (Below.refl w3.heap.size w3).alloc (Nat.le_refl _) (.cells #[.string ⟨#[]⟩, .int .i64 0, .int .u64 0, .int .u64 0, .int .u64 0, .bool false] 34)
    have st0 : PlSt W b tb m (tt F len 0) (gg F len 0) (clo len 0) (w3.alloc (.cells #[.string ⟨#[]⟩, .int .i64 0, .int .u64 0, .int .u64 0, .int .u64 0, .bool false] 34)) :=
      have e0 : tt F len 0 = ⟨#[]⟩ := by unfold tt; rw [Nat.zero_min]; rfl
      have e1 : clo len 0 = false := by unfold clo; simp
      { bel := hB3.trans (hal.mono hB3.size)
        fed := by rw [e0, e1]; exact (Fed.new hH3).below hal
        rh := by rw [e0, e1, hm]; exact heap_alloc_new w3 _
        tab := hT3.kept hal
        lo := by have := HTB.out; omega
        tbb := htl
        bm := by rw [hm]; exact blk_lt hH3 }
    rw [← hm]
    generalize w3.alloc (.cells #[.string ⟨#[]⟩, .int .i64 0, .int .u64 0, .int .u64 0, .int .u64 0, .bool false] 34) = w5 at st0 ⊢
    clear hm hal hT3 hH3 hB3
    go_upto_region 8 with fail
    go_loopg [6, 7] (len + 1) (fun g i u7 wr => ∃ j : Nat, i = .int .i64 j ∧ j ≤ len + 1 ∧ PlSt W b tb m (tt F len j) (gg F len j) (clo len j) wr ∧ len + 1 - j ≤ g)
    case atStart => exact ⟨0, rfl, by omega, st0, by omega⟩
    case round =>
      clear st0
      obtain ⟨j, rfl, hj, st, hg⟩ := hrel
      by_cases hle : j ≤ len
      · have hle' : (j : Int) ≤ len := by omega
        have hcl : clo len j = false := by unfold clo; simp; omega
        rw [hcl] at st
        have hsz := (catF_great HG.out (min j len) (by omega)).2
        have hszt : (tt F len j).size ≤ 4000 := hsz
        have hsz1 : (tt F len (j + 1)).size ≤ 4000 := (catF_great HG.out (min (j + 1) len) (by omega)).2
        have HZ := Lib.hid (And.intro hszt hsz1)
        clear hsz hszt hsz1
        go_upto_if 36 with fail
        go_cut [7] (fun got wx => ∃ ao cap its lo, got = .slice ao its.length cap ∧ (gg F len (j + 1)).its = (gg F len j).its ++ its.map Itm.p ∧ ItIn wx lo (.slice ao its.length cap) its ∧ m < lo ∧ Below W.heap.size W wx ∧ Fed wx b tb (tt F len (j + 1)) (gg F len (j + 1)) (clo len (j + 1)) ∧ IsRh wx m (tt F len (j + 1)) (gg F len j).p (gg F len j).nx (gg F len j).sk (gg F len j).lo (clo len (j + 1)) ∧ IsTab wx tb)
        case first =>
          by_cases hlt : j < len
          · have hlt' : (j : Int) < len := by omega
            have hc1 : clo len (j + 1) = false := by unfold clo; simp; omega
            have htt := tt_lt (F := F) hlt
            obtain ⟨bl, off, rfl, hbl, hcell⟩ := HH.out.1.2.2 j hlt
            have hcell : wr.cell? ⟨bl, off + j, none⟩ = some (.string (F j)) := (st.bel.cell hbl).trans hcell
            have hgn : gg F len (j + 1) = hfin (tt F len j ++ F j) false (gg F len j) := by rw [gg, hc1, htt]
            have hz2 : (tt F len j).size + (F j).size ≤ 4000 := by have := HZ.out.2; rw [htt, ByteArray.size_append] at this; exact this
            have hfd := feed_abs st.fed (F j) st.tab (by have := st.tbb; omega) (by omega)
            rw [← hgn] at hfd
            obtain ⟨y0, y1, y2, y3, y4, y5⟩ := st.rh.cells
            have hfin_ := And.intro hc1 htt
            have HC := Lib.hid hfin_
            clear hc1 htt hgn hfin_
            go_upto_region 13 with ((go_at_call 21; (refine hfd.mono ?_); rintro x wy ⟨ao, cap, its, rfl, hi1, hi2, hi3, hi4⟩; have hrh := st.rh.only hi4 (by have := st.bm; omega); have htb := st.tab.only hi4 (by have := st.tbb; omega); have hbw := ((Only.of_below st.bel (fun k => k = b)).trans hi4 fun _ _ x => x).below (Nat.le_refl _) fun i hi h => by have := st.lo; have := st.tbb; omega))
            obtain ⟨y0, y1, y2, y3, y4, y5⟩ := hrh.cells
            have z0 := hrh.frozen 0
            have hcell2 : wy.cell? ⟨bl, off + j, none⟩ = some (.string (F j)) := (hbw.cell hbl).trans ((st.bel.cell hbl).symm.trans hcell)
            have hmx : (tt F len j).size + (F j).size ≤ maxLen := by unfold maxLen; omega
            go_region
            go_wp2_with fail
            go_meet
            have hml : m < wr.heap.size := blk_lt st.rh
            have on9 := (Only.refl (fun k => k = m) wy).setCell ⟨m, 0, none⟩ (.string (tt F len j ++ F j)) fun _ => rfl
            have on9 := on9.drew
            refine ⟨ao, cap, its, _, rfl, hi1, hi2.only on9 fun k hk => by rw [hk]; exact hml, hml, (bel_set2 hbw _ _ (by have := st.lo; have := st.tbb; have := st.bm; show W.heap.size ≤ m; omega)).drew, ?_, ?_, htb.only on9 (by have := st.tbb; have := st.bm; omega)⟩
            · rw [HC.out.1, HC.out.2]; exact hi3.only on9 (by have := st.bm; omega)
            · rw [HC.out.1, HC.out.2]; exact hrh.set0 _
          · have hlt' : ¬ (j : Int) < len := by omega
            have hc1 : clo len (j + 1) = true := by unfold clo; simp; omega
            have htt := tt_ge (F := F) (show len ≤ j by omega)
            have hgn : gg F len (j + 1) = hfin (tt F len j) true (gg F len j) := by rw [gg, hc1, htt]
            have hfd := close_abs st.fed st.tab (by have := st.tbb; omega) (by have := HZ.out.1; omega)
            rw [← hgn] at hfd
            have hfin_ := And.intro hc1 htt
            have HC := Lib.hid hfin_
            clear hc1 htt hgn hfin_
            go_upto_region 15 with ((go_at_call 22; (refine hfd.mono ?_); rintro x wy ⟨ao, cap, its, rfl, hi1, hi2, hi3, hi4⟩; have hrh := st.rh.only hi4 (by have := st.bm; omega); have htb := st.tab.only hi4 (by have := st.tbb; omega); have hbw := ((Only.of_below st.bel (fun k => k = b)).trans hi4 fun _ _ x => x).below (Nat.le_refl _) fun i hi h => by have := st.lo; have := st.tbb; omega))
            obtain ⟨y0, y1, y2, y3, y4, y5⟩ := hrh.cells
            have z5 := hrh.frozen 5
            go_wp2_with fail
            go_meet
            have hml : m < wr.heap.size := blk_lt st.rh
            have on9 := (Only.refl (fun k => k = m) wy).setCell ⟨m, 5, none⟩ (.bool true) fun _ => rfl
            refine ⟨ao, cap, its, _, rfl, hi1, hi2.only on9 fun k hk => by rw [hk]; exact hml, hml, bel_set2 hbw _ _ (by have := st.lo; have := st.tbb; have := st.bm; show W.heap.size ≤ m; omega), ?_, ?_, htb.only on9 (by have := st.tbb; have := st.bm; omega)⟩
            · rw [HC.out.1, HC.out.2]; exact hi3.only on9 (by have := st.bm; omega)
            · rw [HC.out.1, HC.out.2]; exact hrh.set5 true
        case rest =>
          obtain ⟨ao, cap, its, lo, rfl, hi1, hit, hml, hbw, hfed, hrh, htab⟩ := hcut
          have hlo := st.lo
          have htbb := st.tbb
          have hbm := st.bm
          clear st
          have hgk := gg_ok F len (j + 1)
          have hfk := hfed.ok.p
          have hfkn := hfed.ok.nx
          have hlen : its.length ≤ 8000 ∧ ∀ x ∈ its, x.evs.length ≤ 120 := by
            obtain ⟨g1, g2⟩ := hgk
            rw [hi1] at g1 g2
            have := HZ.out.2
            refine ⟨by rw [List.length_append, List.length_map] at g1; omega, fun x hx => ?_⟩
            exact g2 x.p (List.mem_append_right _ (List.mem_map_of_mem hx))
          have hgo := rgo_any wc.drew m (tt F len (j + 1)) (gg F len j).p (gg F len j).nx (gg F len j).sk (gg F len j).lo (clo len (j + 1)) hrh (by have := (gg_in F len j).1; exact this) (by have := HZ.out.2; omega) (by have := (gg_in F len j).2.2; have := HZ.out.2; omega) (gg_in F len j).2.1.1 (gg_in F len j).2.1.2
          have hpart := hfin_tell (tt F len (j + 1)) (clo len (j + 1)) (gg F len j).its ⟨[], (gg F len j).p, (gg F len j).nx, (gg F len j).sk, (gg F len j).lo⟩
          have hpart : gg F len (j + 1) = (hfin (tt F len (j + 1)) (clo len (j + 1)) ⟨[], (gg F len j).p, (gg F len j).nx, (gg F len j).sk, (gg F len j).lo⟩).tell (gg F len j).its := by
            rw [← hpart, gg]; unfold HS.tell; simp
          generalize hfin (tt F len (j + 1)) (clo len (j + 1)) ⟨[], (gg F len j).p, (gg F len j).nx, (gg F len j).sk, (gg F len j).lo⟩ = R at hgo hpart
          obtain ⟨G2, hG2⟩ : ∃ G, G = gg F len (j + 1) := ⟨_, rfl⟩
          rw [← hG2] at hfed hgk hfk hfkn hi1 hpart
          have HG2 := Lib.hid hG2.symm
          clear hG2
          have e1 : G2.p = R.p := by rw [hpart]; rfl
          have e2 : G2.nx = R.nx := by rw [hpart]; rfl
          have e3 : G2.sk = R.sk := by rw [hpart]; rfl
          have e4 : G2.lo = R.lo := by rw [hpart]; rfl
          have e5 : its.map Itm.p = R.its := by
            have : G2.its = (gg F len j).its ++ R.its := by rw [hpart]; rfl
            rw [hi1] at this
            exact List.append_cancel_left this
          have HE := Lib.hid (And.intro e1 (And.intro e2 (And.intro e3 (And.intro e4 e5))))
          clear e1 e2 e3 e4 e5 hpart hi1
          go_upto_region 16 with fail
          have hitD := hit.below ((Below.refl wc.heap.size wc).drew)
          go_cut [90] (fun u wx => u = .bool false ∧ PlSt W b tb m (tt F len (j + 1)) G2 (clo len (j + 1)) wx)
          case first =>
            refine wp_region_noPanic ?_
            refine wp_region_any (by kernel_rfl) ?_
            change wpAny _ _ _ _ _ _ _ (World.drew _)
            refine wpAny_take (i := 0) (v := ?_) rfl (by kernel_rfl) (by kernel_rfl) (by kernel_rfl) (fun _ _ _ h => h) (Or.inl ⟨by rfl, ?_⟩) ?_
            rotate_left
            · intro w; go_simp; try with_reducible rfl
            refine wpAny_take (i := 1) (v := ?_) rfl (by kernel_rfl) (by kernel_rfl) (by kernel_rfl) (fun _ _ _ h => h) (Or.inl ⟨by rfl, ?_⟩) ?_
            rotate_left
            · intro w; go_simp; try with_reducible rfl
            refine wpAny_ready (rs := [2]) (by kernel_rfl) (by simp) ?_
            refine AllReady.cons rfl (fun K hK => ?_) AllReady.nil
            go_simp
            refine hgo.mono ?_
            rintro x wG ⟨ao2, cap2, its2, rfl, hm2, hit2, hrh2, hon2⟩
            have hsm := rsame9_any (hitD.only hon2 fun k hk => by rw [hk]; exact hml) hit2 (HE.out.2.2.2.2.trans hm2.symm) (by omega) (fun x hx => Nat.le_trans (hlen.2 x hx) (by decide))
            have hf2 := (hfed.below ((Below.refl wc.heap.size wc).drew)).only hon2 (by omega)
            obtain ⟨q0, q1, q2, q3, q4, q5⟩ := hrh2.cells
            refine hK _ _ ?_
            clear hK K
            try simp only [Act.put, List.setIfInBounds_toArray, List.set_cons_zero, List.set_cons_succ]
            refine wpAny_ready (rs := [3]) (by kernel_rfl) (by simp) ?_
            refine AllReady.cons rfl (fun K hK => ?_) AllReady.nil
            go_simp
            refine hsm.mono ?_
            rintro x wS ⟨rfl, n9, rfl⟩
            refine hK _ _ ?_
            clear hK K
            try simp only [Act.put, List.setIfInBounds_toArray, List.set_cons_zero, List.set_cons_succ]
            have n1 := fun n => (hnext_any ((wG.drewN n9).drewN n) b tb _ _ _ _ _ hf2.hu).mono (R' := fun e w'' => e = .returned (.int .u64 R.nx) ∧ ∃ m, w'' = (wG.drewN n9).drewN m) fun e w' h => ⟨by rw [← HE.out.2.1]; exact h.1, n, h.2.symm⟩
            have n2 := fun n => (hskipped_any ((wG.drewN n9).drewN n) b tb _ _ _ _ _ hf2.hu).mono (R' := fun e w'' => e = .returned (.int .u64 R.sk) ∧ ∃ m, w'' = (wG.drewN n9).drewN m) fun e w' h => ⟨by rw [← HE.out.2.2.1]; exact h.1, n, h.2.symm⟩
            have n3 := fun n => (hlost_any ((wG.drewN n9).drewN n) b tb _ _ _ _ _ hf2.hu).mono (R' := fun e w'' => e = .returned (.int .u64 R.lo) ∧ ∃ m, w'' = (wG.drewN n9).drewN m) fun e w' h => ⟨by rw [← HE.out.2.2.2.1]; exact h.1, n, h.2.symm⟩
            have hS : ∀ i, (wG.drewN n9).cell? ⟨m, i, none⟩ = wG.cell? ⟨m, i, none⟩ := fun _ => rfl
            have q2 : (wG.drewN n9).cell? ⟨m, 2, none⟩ = some (.int .u64 R.nx) := q2
            have q3 : (wG.drewN n9).cell? ⟨m, 3, none⟩ = some (.int .u64 R.sk) := q3
            have q4 : (wG.drewN n9).cell? ⟨m, 4, none⟩ = some (.int .u64 R.lo) := q4
            have hend := plSt_end hbw hlo htbb hbm hf2 (by rw [HE.out.1, HE.out.2.1, HE.out.2.2.1, HE.out.2.2.2.1]; exact hrh2) (htab.kept ((Below.refl wc.heap.size wc).drew)) hon2 n9
            generalize wG.drewN n9 = wX at n1 n2 n3 q2 q3 q4 hend ⊢
            refine wpAny_lexq (k := 4) (by kernel_rfl) rfl (by rfl) (by kernel_rfl) ?_
            simp only [List.drop_succ_cons, List.drop_zero]
            repeat (go_big_quiet_step (first | exact n1 _ | exact n2 _ | exact n3 _))
            refine wpQuiet_nil ?_
            rintro _ ⟨nq, rfl⟩
            refine NoPanic.normal ?_
            go_wp2_with fail
            go_meet
            exact ⟨rfl, hend.drewN nq⟩
          case rest =>
            obtain ⟨rfl, st2⟩ := hcut
            rw [← HG2.out] at st2
            go_wp2_with fail
            obtain ⟨g, rfl⟩ : ∃ g, gk = g + 1 := ⟨gk - 1, by omega⟩
            go_roundg g
            case measure => omega
            case rel => exact ⟨j + 1, by go_num, by omega, st2, by omega⟩
      · have hle' : ¬ (j : Int) ≤ len := by omega
        obtain rfl : j = len + 1 := by omega
        have hcl : clo len (len + 1) = true := by unfold clo; simp
        rw [hcl] at st
        generalize tt F len (len + 1) = T at st
        generalize gg F len (len + 1) = G at st
        have hk := (Below.refl wr.heap.size wr).drew
        have st1 := st
        obtain ⟨q0, q1, q2, q3, q4, q5⟩ := st.rh.cells
        have hm9 : m < wr.heap.size := blk_lt st.rh
        have fX : ∀ {w' : World}, Below wr.heap.size wr w' → w'.cell? ⟨m, 2, none⟩ = some (.int .u64 G.nx) ∧ w'.cell? ⟨m, 3, none⟩ = some (.int .u64 G.sk) := fun k => ⟨(st.rh.below k).cells.2.2.1, (st.rh.below k).cells.2.2.2.1⟩
        have o9 := fun n => one_any (wr.drewN n) 9 (by decide) (ha_0 0 (.inl rfl)).1
        have c9 := fun (w' : World) (k : Below wr.heap.size wr w') (s : Value) => feed_closed w' b tb _ s _ _ _ (st.fed.below k).hu
        have d9 := fun (w' : World) (k : Below wr.heap.size wr w') => hclose_closed w' b tb _ _ _ _ (st.fed.below k).hu
        have n1 := fun (w' : World) (k : Below wr.heap.size wr w') => hnext_any w' b tb _ _ _ _ _ (st.fed.below k).hu
        have n2 := fun (w' : World) (k : Below wr.heap.size wr w') => hskipped_any w' b tb _ _ _ _ _ (st.fed.below k).hu
        go_upto_region 18 with fail
        go_region_held3 (fun w' => w'.cell? ⟨m, 2, none⟩ = some (.int .u64 G.nx) ∧ w'.cell? ⟨m, 3, none⟩ = some (.int .u64 G.sk)) (first | exact ⟨q2, q3⟩ | exact fX hk | assumption) (first | (go_at_call 28; (refine (o9 1).mono ?_); rintro x w8 ⟨rfl, hk8⟩; have hk9 := bel_next hk hk8; have hS8 := fX hk9) | (go_at_call 21; (refine (c9 _ hk9 _).mono ?_); rintro x wN ⟨rfl, rfl⟩) | (go_at_call 22; (refine (d9 _ hk9).mono ?_); rintro x wN ⟨rfl, rfl⟩) | (go_at_call 25; (refine (n1 _ hk9).mono ?_); rintro x wN ⟨rfl, rfl⟩) | (go_at_call 26; (refine (n2 _ hk9).mono ?_); rintro x wN ⟨rfl, rfl⟩))
        go_wp2_with fail
        go_ret
        exact ⟨rfl, st.bel.trans (hk9.mono st.bel.size)⟩
end Go.Proofs.Ythdenjokedmcfaa
