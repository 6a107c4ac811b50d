/- The walk of the statement of layer 9: HuntCounts. (Printed by gen_hul4.py.) -/
import Derived.Test.YthdenjokedmcfaaHuC
import Derived.Deep.DeepCutAuto
namespace Go.Proofs.Ythdenjokedmcfaa
open Go.RowKit
set_option linter.unusedVariables false
set_option linter.unusedSimpArgs false
set_option maxRecDepth 20000
set_option maxHeartbeats 8000000 in
theorem huntCounts_law (oa : Option Addr) (len cap : Nat) (F : Nat → ByteArray) (W : World) (h : SlArg W oa len cap (fun i => .string (F i))) (hz : cap * 16 ≤ 140737488351232) (_hx : ∀ i, i < len → (F i).size ≤ maxLen) :
    Calls Try.prog 5 #[.slice oa len cap] W fun e W' => e = .returned (.bool true) ∧ Below W.heap.size W W' := by
  obtain ⟨i0, hi0, hz0, hz1, hz2⟩ := itm_info
  have HH := Lib.hid (And.intro h hz)
  have hl0 : len ≤ cap ∧ cap ≤ maxLen := ⟨h.1, h.2.1⟩
  have hl1 : len ≤ 8796093021952 := by omega
  clear h hz _hx
  go_enter Try.func5, Try.ntmps5
  go_wp2_with fail
  refine (awake9 W).mono ?_
  rintro x w1 ⟨rfl, hB1⟩
  have hg := great9_any w1 oa len cap F ⟨HH.out.1.1, HH.out.1.2.1, fun i hi => by
    obtain ⟨b', off, e1, e2, e3⟩ := HH.out.1.2.2 i hi
    exact ⟨b', off, e1, Nat.lt_of_lt_of_le e2 hB1.size, (hB1.cell e2).trans e3⟩⟩ HH.out.2
  go_wp2_with fail
  refine hg.mono ?_
  rintro x w2 ⟨⟨n, rfl, hn⟩, rfl⟩
  clear hg
  by_cases hgr : 4000 < n
  · have hgr' : (4000 : Int) < (n : Int) := by omega
    go_wp2_with fail
    refine (awake9 _).mono ?_
    rintro x w3 ⟨rfl, hk⟩
    have hB3 := hB1.trans (hk.mono hB1.size)
    go_wp2_with fail
    go_ret
    exact ⟨rfl, hB3⟩
  · have hgr' : ¬ (4000 : Int) < (n : Int) := by omega
    have HG := Lib.hid (hn (by omega))
    clear hn
    go_wp2_with fail
    refine (make_any w1).mono ?_
    rintro x w2 ⟨rfl, hT, hk⟩
    have hB2 := hB1.trans (hk.mono hB1.size)
    have hlo1 := hB1.size
    obtain ⟨tb, htb⟩ : ∃ tb, tb = w1.heap.size := ⟨_, rfl⟩
    rw [← htb] at hT ⊢ hlo1
    have htl : tb < w2.heap.size := by obtain ⟨C, h1, _⟩ := hT; exact blk_lt h1
    clear htb hk hB1
    go_wp2_with fail
    refine (hnew_any w2 tb).mono ?_
    rintro x w3 ⟨rfl, hH1, hk⟩
    have hB3 := hB2.trans (hk.mono hB2.size)
    have hT3 := hT.kept hk
    obtain ⟨b, hb1⟩ : ∃ b1, b1 = w2.heap.size := ⟨_, rfl⟩
    rw [← hb1] at hH1 htl ⊢
    clear hb1 hk hB2 hT
    have st0 : OnSt W tb b (catG F 0) (gO (catG F 0)) false (.slice none 0 0) [] w3 :=
      have e0 : gO (catG F 0) = hs0 := gO_nil
      { bel := hB3, acc := by rw [e0]; exact { fed := Fed.new hH1, it := ItIn.nil _ _, map := rfl, few := hs0_ok, lob := by omega }, tab := hT3, lo := ⟨hlo1, htl⟩, bs := blk_lt hH1 }
    clear hB3 hT3 hH1 hlo1 htl
    go_upto_region 7 with fail
    go_loopg [5, 6, 8, 29] (len) (fun g a by_ u12 i wr => ∃ (j : Nat) (its : List Itm) (ao : Option Addr) (cp : Nat), a = .slice ao its.length cp ∧ by_ = .int .u64 (catG F j).size ∧ i = .int .i64 j ∧ j ≤ len ∧ OnSt W tb b (catG F j) (gO (catG F j)) false (.slice ao its.length cp) its wr ∧ len - j ≤ g)
    case atStart => exact ⟨0, [], none, 0, rfl, rfl, rfl, Nat.zero_le _, st0, Nat.le_refl _⟩
    case round =>
      clear st0
      obtain ⟨j, its, ao, cp, rfl, rfl, rfl, hj, st, hg⟩ := hrel
      have hlo := st.lo
      have hbs := st.bs
      by_cases hlt : j < len
      · have hlt' : (j : Int) < len := by omega
        obtain ⟨bl, off, rfl, hbl, hcell⟩ := HH.out.1.2.2 j hlt
        have hcell : wr.cell? ⟨bl, off + j, none⟩ = some (.string (F j)) := (st.bel.cell hbl).trans hcell
        have hs1 := (catG_great HG.out (j + 1) (by omega)).2
        have hs3 : (catG F (j + 1)).size = (catG F j).size + (F j).size := ByteArray.size_append
        have hw1 : IntKind.u64.wrap ((F j).size : Int) = ((F j).size : Int) := by rw [IntKind.wrap_u64]; omega
        have hw2 : IntKind.u64.wrap (((catG F j).size : Int) + ((F j).size : Int)) = ((catG F (j + 1)).size : Int) := by rw [IntKind.wrap_u64, hs3]; omega
        have hfd := feed_abs st.acc.fed (F j) st.tab (by omega) (by omega)
        rw [gO_app, show catG F j ++ F j = catG F (j + 1) from rfl] at hfd
        have hfew := (gO_few (catG F (j + 1))).1
        have HS3 := Lib.hid hs3
        clear hs3
        go_upto_region 11 with (first | (go_at_call 21; (refine hfd.mono ?_); intro x w5 hx5; obtain ⟨ao5, cap5, m5, rfl, h5⟩ := fd6_of hx5 hfew; clear hx5; have hi5 := (st.acc.it.only h5.only fun k hk => by rw [hk]; omega).own; have hsr5 := src_own h5.inn.own (itCells_length _); have hone5 := itCells_one h5.inn.evs; have hb5 : b + 1 ≤ w5.heap.size := Nat.le_trans st.bs h5.only.size; have hl5 := h5.len st.acc hs1) | (at_builtin; (refine list_append rfl (.tmp 38) (.tmp 41) 35 rfl (b + 1) hb5 44 i0 _ 4 40 ul_items hi0 hz0 hz1 hz2 rfl (by decide) (.slice ao its.length cp) its.length (itCells its) rfl hi5 _ m5.length (itCells m5) rfl (itCells_length _) hsr5 hone5 (by unfold maxLen; omega) (by omega) ?_); intro ao7 cp7 w7 hown5 hg5 hat5; have st7 := st.more h5 hown5 hg5; clear hat5 hg5 hown5 h5 hi5 hsr5 hone5 hb5 hl5))
        go_wp2_with fail
        obtain ⟨g, rfl⟩ : ∃ g, gk = g + 1 := ⟨gk - 1, by omega⟩
        go_roundg g
        case measure => omega
        case rel => exact ⟨j + 1, its ++ m5, ao7, cp7, by rw [List.length_append], rfl, by go_num, by omega, by rw [List.length_append]; exact st7, by omega⟩
      · have hlt' : ¬ (j : Int) < len := by omega
        obtain rfl : j = len := by omega
        have hs1 := (catG_great HG.out j (by omega)).2
        generalize catG F j = T at *
        have hfd := close_abs st.acc.fed st.tab (by omega) (by omega)
        rw [gC_of] at hfd
        have hfew := (gC_few T).1
        go_upto_region 13 with (first | (go_at_call 22; (refine hfd.mono ?_); intro x w5 hx5; obtain ⟨ao5, cap5, m5, rfl, h5⟩ := fd6_of hx5 hfew; clear hx5; have hi5 := (st.acc.it.only h5.only fun k hk => by rw [hk]; omega).own; have hsr5 := src_own h5.inn.own (itCells_length _); have hone5 := itCells_one h5.inn.evs; have hb5 : b + 1 ≤ w5.heap.size := Nat.le_trans st.bs h5.only.size; have hl5 := h5.len st.acc hs1) | (at_builtin; (refine list_append rfl (.tmp 44) (.tmp 46) 35 rfl (b + 1) hb5 44 i0 _ 4 40 ul_items hi0 hz0 hz1 hz2 rfl (by decide) (.slice ao its.length cp) its.length (itCells its) rfl hi5 _ m5.length (itCells m5) rfl (itCells_length _) hsr5 hone5 (by unfold maxLen; omega) (by omega) ?_); intro ao7 cp7 w7 hown5 hg5 hat5; have st7 := st.more h5 hown5 hg5; clear hat5 hg5 hown5 h5 hi5 hsr5 hone5 hb5 hl5))
        clear st hfd hfew hlo hbs
        obtain ⟨N, hN⟩ : ∃ N, N = its.length + m5.length := ⟨_, rfl⟩
        obtain ⟨I, hI⟩ : ∃ I, I = its ++ m5 := ⟨_, rfl⟩
        have hNI : N = I.length := by rw [hN, hI, List.length_append]
        rw [← hN, ← hI] at st7
        rw [← hN]
        clear hN hI
        have hcnt : CntOk (gC T) := cnt_fin cnt0
        have hend : (gC T).p = T.size := fin_end (S := hs0) (Nat.zero_le _)
        have hmap := st7.acc.map
        have hfl := st7.acc.few_len hs1
        have HC := Lib.hid (And.intro hcnt (And.intro hend hmap))
        have hN8 : N ≤ 8000 := by omega
        have HNI := Lib.hid hNI
        clear hcnt hend hmap hNI
        go_upto_region 15 with fail
        go_loopg [6, 9, 10, 12, 13, 14, 50] (N) (fun g by_ nx lo u12 u13 u14 i wr => ∃ k : Nat, by_ = .int .u64 ((T.size - (tal ((gC T).its.take k)).2.2 : Nat) : Int) ∧ nx = .int .u64 (tal ((gC T).its.take k)).1 ∧ lo = .int .u64 (tal ((gC T).its.take k)).2.1 ∧ i = .int .i64 k ∧ k ≤ N ∧ OnSt W tb b T (gC T) true (.slice ao7 N cp7) I wr ∧ N - k ≤ g)
        case atStart => exact ⟨0, rfl, rfl, rfl, rfl, Nat.zero_le _, st7, Nat.le_refl _⟩
        case round =>
          clear st7
          obtain ⟨k, rfl, rfl, rfl, rfl, hk, st, hg⟩ := hrel
          have hmore := tal_more (gC T).its k
          have hb1 : (tal (gC T).its).2.2 ≤ T.size := by have h1 := HC.out.1.sk; have h2 := HC.out.2.1; omega
          have hb2 : (tal (gC T).its).1 ≤ 4294967296 := by rw [HC.out.1.nx]; exact HC.out.1.le
          have hb3 : (tal (gC T).its).2.1 ≤ 4294967296 := by rw [HC.out.1.lo]; exact Nat.le_trans (HS.Ok.fin (S := hs0) (X := T) (cl := true) ⟨Nat.zero_le _, by show (0 : Nat) ≤ 4294967296; omega, Nat.le_refl _⟩).lo HC.out.1.le
          by_cases hlt : k < N
          · have hlt' : (k : Int) < N := by omega
            have hNI := HNI.out
            obtain ⟨g9, rfl, q1, q2, qc⟩ := itIn_cell st.acc.it hNI (by omega)
            obtain ⟨c0, c1, c2, c3⟩ := qc k (by omega)
            have hev := st.acc.it.evs _ (mem_getD (show k < I.length by omega))
            have hxk : (gC T).its[k]? = some (I.getD k default).p := by rw [← HC.out.2.2, List.getElem?_map, List.getElem?_eq_getElem (by omega), List.getD_eq_getElem?_getD, List.getElem?_eq_getElem (by omega)]; rfl
            have hfe := hfl.2 _ (mem_getD (show k < I.length by omega))
            have hok := HC.out.1.ok k _ hxk
            have htk := tal_take hxk
            have hmr2 := tal_more (gC T).its (k + 1)
            clear qc hxk hNI
            generalize I.getD k default = x at *
            obtain ⟨xk, xs, xl, xv, xe⟩ := x
            simp only [Itm.p] at hok htk
            obtain ⟨⟨oa9, ca9, hxv⟩, hev⟩ := hev
            simp only at hxv hev c0 c1 c2 c3 hfe
            subst hxv
            generalize (tal ((gC T).its.take k)) = S0 at *
            rw [htk] at hmr2
            have HTK := Lib.hid htk
            clear htk
            rcases hok with ⟨rfl, rfl, o3, o4, o5, rfl⟩ | ⟨rfl, rfl, rfl, hgf⟩
            · -- a gap
              simp only [tstep, if_pos] at hmr2
              simp only at o3 o4
              have hal := (Below.refl wr.heap.size wr).alloc (Nat.le_refl _) (.cells #[.int .i64 2, .int .u32 S0.1, .int .u32 xl, .slice oa9 0 ca9] 44)
              have st2 := st.below hal
              have hbx : (wr.alloc (.cells #[.int .i64 2, .int .u32 S0.1, .int .u32 xl, .slice oa9 0 ca9] 44)).heap[wr.heap.size]? = some (.cells #[.int .i64 2, .int .u32 S0.1, .int .u32 xl, .slice oa9 0 ca9] 44 (0, 0)) := heap_alloc_new wr _
              have hw1 : IntKind.u64.wrap (S0.1 : Int) = (S0.1 : Int) := by rw [IntKind.wrap_u64]; omega
              have hw2 : IntKind.u64.wrap (xl : Int) = (xl : Int) := by rw [IntKind.wrap_u64]; omega
              have hw3 : IntKind.u64.wrap ((S0.1 : Int) + (xl : Int)) = ((S0.1 + xl : Nat) : Int) := by rw [IntKind.wrap_u64]; omega
              have hw4 : IntKind.u64.wrap ((S0.2.1 : Int) + (xl : Int)) = ((S0.2.1 + xl : Nat) : Int) := by rw [IntKind.wrap_u64]; omega
              have hxl : ((xl : Int) == 0) = false := by simp; omega
              go_upto_region 17 with fail
              generalize hgx : wr.heap.size = gx at *
              generalize wr.alloc (.cells #[.int .i64 2, .int .u32 S0.1, .int .u32 xl, .slice oa9 0 ca9] 44) = w6 at *
              have x0 := cell_blk hbx 0
              have x1 := cell_blk hbx 1
              have x2 := cell_blk hbx 2
              have x3 := cell_blk hbx 3
              simp only [List.getElem?_toArray, List.getElem?_cons_zero, List.getElem?_cons_succ] at x0 x1 x2 x3
              clear c0 c1 c2 c3 hbx hal hev
              go_wp2_with fail
              obtain ⟨g, rfl⟩ : ∃ g, gk = g + 1 := ⟨gk - 1, by omega⟩
              go_roundg g
              case measure => omega
              case rel =>
                refine ⟨k + 1, ?_, ?_, ?_, by go_num, by omega, st2, by omega⟩
                · rw [HTK.out]; simp [tstep]
                · rw [HTK.out]; simp [tstep]
                · rw [HTK.out]; simp [tstep]
            · have hz : (fun i => xe.getD i default) = PFr.z (S0.1, xe) := rfl
              have htl : (frT (S0.1, xe)).length = (⟨(frT (S0.1, xe)).toArray⟩ : ByteArray).size := by show _ = (List.toArray _).size; simp
              simp only [tstep] at hmr2
              rw [if_neg (show ¬ ((1 : Int) = 2) by decide)] at hmr2
              simp only at hmr2
              have hal := (Below.refl wr.heap.size wr).alloc (Nat.le_refl _) (.cells #[.int .i64 1, .int .u32 S0.1, .int .u32 0, .slice oa9 xe.length ca9] 44)
              have st2 := st.below hal
              have hev2 := own_below hev hal
              have hbx : (wr.alloc (.cells #[.int .i64 1, .int .u32 S0.1, .int .u32 0, .slice oa9 xe.length ca9] 44)).heap[wr.heap.size]? = some (.cells #[.int .i64 1, .int .u32 S0.1, .int .u32 0, .slice oa9 xe.length ca9] 44 (0, 0)) := heap_alloc_new wr _
              have hsq := hgf.seq
              have hfl2 := frT_len2 hgf
              have hw1 : IntKind.u64.wrap (S0.1 : Int) = (S0.1 : Int) := by rw [IntKind.wrap_u64]; simp only at hsq; omega
              have hw3 : IntKind.u64.wrap ((S0.1 : Int) + 1) = ((S0.1 + 1 : Nat) : Int) := by rw [IntKind.wrap_u64]; simp only at hsq; omega
              have HT := Lib.hid htl
              obtain ⟨fl, hfl9⟩ : ∃ fl, fl = (frT (S0.1, xe)).length := ⟨_, rfl⟩
              rw [← hfl9] at hmr2 hfl2 htl
              have hw5 : IntKind.u64.wrap (fl : Int) = (fl : Int) := by rw [IntKind.wrap_u64]; omega
              have hw6 : IntKind.u64.wrap (((T.size - S0.2.2 : Nat) : Int) - (fl : Int)) = ((T.size - (S0.2.2 + fl) : Nat) : Int) := by rw [IntKind.wrap_u64]; omega
              have hgt : ¬ (((T.size - S0.2.2 : Nat) : Int) < (fl : Int)) := by omega
              go_upto_region 17 with fail
              generalize hgx : wr.heap.size = gx at *
              generalize wr.alloc (.cells #[.int .i64 1, .int .u32 S0.1, .int .u32 0, .slice oa9 xe.length ca9] 44) = w6 at *
              have hp := rfprint_any w6 S0.1 (by simpa using hsq) oa9 xe.length ca9 (fun i => xe.getD i default) (slArgN_own hev2) (fun i hi => hgf.wf i hi) (by omega)
              have hE : frE (fun i => xe.getD i default) xe.length = 0 := hgf.e
              have hS : frS S0.1 (fun i => xe.getD i default) xe.length = frT (S0.1, xe) := by unfold frS; rw [if_pos hE]; rfl
              rw [hE, hS] at hp
              generalize (⟨(frT (S0.1, xe)).toArray⟩ : ByteArray) = fs at hp htl
              have htl2 : (fs.size : Int) = (fl : Int) := by rw [htl]
              have x0 := cell_blk hbx 0
              have x1 := cell_blk hbx 1
              have x2 := cell_blk hbx 2
              have x3 := cell_blk hbx 3
              simp only [List.getElem?_toArray, List.getElem?_cons_zero, List.getElem?_cons_succ] at x0 x1 x2 x3
              have HX := Lib.hid (And.intro hfl9 hbx)
              clear c0 c1 c2 c3 hal hev hE hS hev2 htl hfl9 hz
              go_upto_region 25 with ((go_at_call 29; (refine hp.mono ?_); rintro x wP ⟨rfl, hkP⟩))
              have st3 := st2.below hkP
              have hb9 := (hkP.block _ (blk_lt HX.out.2)).trans HX.out.2
              have x0 := cell_blk hb9 0
              simp only [List.getElem?_toArray, List.getElem?_cons_zero, List.getElem?_cons_succ] at x0
              clear hp
              go_wp2_with fail
              obtain ⟨g, rfl⟩ : ∃ g, gk = g + 1 := ⟨gk - 1, by omega⟩
              go_roundg g
              case measure => omega
              case rel =>
                have e9 : tal (List.take (k + 1) (gC T).its) = (S0.1 + 1, S0.2.1, S0.2.2 + fl) := by
                  rw [HTK.out, HX.out.1]
                  unfold tstep
                  rw [if_neg (show ¬ ((1 : Int) = 2) by decide)]
                refine ⟨k + 1, ?_, ?_, ?_, by go_num, by omega, st3, by omega⟩
                · rw [e9]
                · rw [e9]; simp
                · rw [e9]
          · have hlt' : ¬ (k : Int) < N := by omega
            obtain rfl : k = N := by omega
            have hNI := HNI.out
            have hfull : (gC T).its.take k = (gC T).its := List.take_of_length_le (by rw [← HC.out.2.2, List.length_map]; omega)
            clear hNI
            rw [hfull]
            have e1 : T.size - (tal (gC T).its).2.2 = (gC T).sk := by have h1 := HC.out.1.sk; have h2 := HC.out.2.1; omega
            rw [e1, HC.out.1.nx, HC.out.1.lo]
            have k1 := hskipped_any wr b tb _ _ _ _ _ st.acc.fed.hu
            have k2 := hnext_any wr b tb _ _ _ _ _ st.acc.fed.hu
            have k3 := hlost_any wr b tb _ _ _ _ _ st.acc.fed.hu
            go_wp2_with (first | (go_at_call 26; (refine k1.mono ?_); rintro x wS ⟨rfl, rfl⟩) | (go_at_call 25; (refine k2.mono ?_); rintro x wS ⟨rfl, rfl⟩) | (go_at_call 27; (refine k3.mono ?_); rintro x wS ⟨rfl, rfl⟩))
            go_ret
            exact ⟨rfl, st.bel⟩
end Go.Proofs.Ythdenjokedmcfaa
