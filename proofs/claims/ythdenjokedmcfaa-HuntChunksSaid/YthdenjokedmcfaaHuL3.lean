/- The walk of the statement of layer 9: HuntChunks. -/
import Derived.Test.YthdenjokedmcfaaHuK
namespace Go.Proofs.Ythdenjokedmcfaa
open Go.RowKit
set_option linter.unusedVariables false
set_option linter.unusedSimpArgs false
set_option maxRecDepth 20000
/-- Where the law stands while the pieces are fed. -/
structure ChSt (W : World) (tb b1 b2 : Nat) (T : ByteArray) (G : HS) (cl : Bool) (v : Value) (its : List Itm) (wr : World) : Prop where
  bel : Below W.heap.size W wr
  acc : Acc wr (b2 + 1) b1 tb T G cl v its
  h2 : IsHu wr b2 tb ⟨#[]⟩ 0 0 0 false
  tab : IsTab wr tb
  lo : W.heap.size ≤ tb ∧ tb < b1 ∧ b1 < b2
/-- What a call of Feed or Close gives for the append behind it. -/
structure Fd5 (w w1 : World) (lo b tb : Nat) (T2 : ByteArray) (G R : HS) (cl2 : Bool) (ao : Option Addr) (cap : Nat) (m : List Itm) : Prop where
  it : R.its = G.its ++ m.map Itm.p
  inn : ItIn w1 w.heap.size (.slice ao m.length cap) m
  fed : Fed w1 b tb T2 R cl2
  only : Only (fun k => k = b) w w1
  few : ItsOk R
theorem fd5_of {w w1 : World} {lo b tb : Nat} {T T2 : ByteArray} {G R : HS} {cl cl2 : Bool} {x : Ending} (h : FedPost w b tb T2 G R cl2 x w1) (hf : ItsOk R) : ∃ ao cap m, x = .returned (.slice ao m.length cap) ∧ Fd5 w w1 lo b tb T2 G R cl2 ao cap m := by
  obtain ⟨ao, cap, m, rfl, h1, h2, h3, h4⟩ := h
  exact ⟨ao, cap, m, rfl, h1, h2, h3, h4, hf⟩
theorem Fd5.len {w w1 : World} {lo b tb : Nat} {T T2 : ByteArray} {G R : HS} {cl cl2 : Bool} {ao : Option Addr} {cap : Nat} {m its : List Itm} {v : Value} (h : Fd5 w w1 lo b tb T2 G R cl2 ao cap m) (hA : Acc w lo b tb T G cl v its) (hT : T2.size ≤ 4000) : its.length + m.length ≤ 8000 := by
  have h1 := h.few.1
  have h2 := h.fed.ok.p
  rw [h.it, ← hA.map, List.length_append, List.length_map, List.length_map] at h1
  omega
theorem ChSt.more {W : World} {tb b1 b2 : Nat} {T T2 : ByteArray} {G R : HS} {cl cl2 : Bool} {v v' : Value} {its m : List Itm} {wr w1 w2 : World} {ao : Option Addr} {cap : Nat} (h : ChSt W tb b1 b2 T G cl v its wr) (f : Fd5 wr w1 (b2 + 1) b1 tb T2 G R cl2 ao cap m)
    (hr : w2.ownsRow (b2 + 1) 44 4 v' (its.length + m.length) (itCells its ++ itCells m)) (hg : w1.grownBy w2 v.ownBlock) : ChSt W tb b1 b2 T2 R cl2 v' (its ++ m) w2 :=
  have hl := h.lo
  have hb := blk_lt h.h2
  have hI := (h.acc.it.only f.only fun k hk => by rw [hk]; omega).own
  have hB : Below W.heap.size W w1 := ((Only.of_below h.bel (fun k => k = b1)).trans f.only fun _ _ x => x).below (Nat.le_refl _) fun i hi e => by omega
  { bel := below_append hB (World.ownsRow.mono hI (by omega)) hg hB.size
    acc := h.acc.more f.it f.inn (by omega) f.fed f.only f.few hg hr
    h2 := (show IsHu w1 b2 tb ⟨#[]⟩ 0 0 0 false from f.only.keeps h.h2 (by omega)).grow hI (Nat.lt_succ_self b2) hg
    tab := tab_grow (h.tab.only f.only (by omega)) hI (by omega) hg
    lo := hl }
/-- Where the law stands behind them: the second hunter feeds. -/
structure CiSt (W : World) (tb b1 b2 : Nat) (T : ByteArray) (va : Value) (ia : List Itm) (lo : Nat) (T2 : ByteArray) (G : HS) (cl : Bool) (v : Value) (its : List Itm) (wr : World) : Prop where
  bel : Below W.heap.size W wr
  a1 : Acc wr (b2 + 1) b1 tb T (gC T) true va ia
  a2 : Acc wr lo b2 tb T2 G cl v its
  tab : IsTab wr tb
  ord : W.heap.size ≤ tb ∧ tb < b1 ∧ b1 < b2
  va : ∀ k, va.ownBlock = some k → k < lo
  sz : lo ≤ wr.heap.size
theorem ChSt.turn {W : World} {tb b1 b2 : Nat} {T : ByteArray} {v : Value} {its : List Itm} {wr : World} (h : ChSt W tb b1 b2 T (gC T) true v its wr) : CiSt W tb b1 b2 T v its wr.heap.size ⟨#[]⟩ hs0 false (.slice none 0 0) [] wr :=
  { bel := h.bel, a1 := h.acc, a2 := { fed := Fed.new h.h2, it := ItIn.nil _ _, map := rfl, few := hs0_ok, lob := blk_lt h.h2 }, tab := h.tab, ord := h.lo, va := fun k hk => (h.acc.it.own.lt k hk).2, sz := Nat.le_refl _ }
theorem CiSt.more {W : World} {tb b1 b2 lo : Nat} {T T2 T3 : ByteArray} {G R : HS} {cl cl2 : Bool} {va v v' : Value} {ia its m : List Itm} {wr w1 w2 : World} {ao : Option Addr} {cap : Nat} (h : CiSt W tb b1 b2 T va ia lo T2 G cl v its wr) (f : Fd5 wr w1 lo b2 tb T3 G R cl2 ao cap m)
    (hr : w2.ownsRow lo 44 4 v' (its.length + m.length) (itCells its ++ itCells m)) (hg : w1.grownBy w2 v.ownBlock) : CiSt W tb b1 b2 T va ia lo T3 R cl2 v' (its ++ m) w2 :=
  have hl := h.ord
  have hb := h.a2.lob
  have hw := h.sz
  have hI := (h.a2.it.only f.only fun k hk => by rw [hk]; exact hb).own
  have hB : Below W.heap.size W w1 := ((Only.of_below h.bel (fun k => k = b2)).trans f.only fun _ _ x => x).below (Nat.le_refl _) fun i hi e => by omega
  have ha := h.a1.only f.only (by omega) (fun k hk => by omega)
  { bel := below_append hB (World.ownsRow.mono hI (by omega)) hg hB.size
    a1 := { fed := { ha.fed with hu := ha.fed.hu.grow hI (by omega) hg }
            it := ⟨by
              rcases ha.it.own.2 with h0 | ⟨g, cp, cur, e1, hbg, hb, hr⟩
              · exact ⟨ha.it.own.1, .inl h0⟩
              · refine ⟨ha.it.own.1, .inr ⟨g, cp, cur, e1, hbg, (hg.block g (blk_lt hb) fun x => ?_).trans hb, hr⟩⟩
                have h1 := h.va g (by rw [e1]; rfl)
                have h2 := (hI.lt g x.symm).1
                omega, fun x hx => ⟨(ha.it.evs x hx).1, own_grow (ha.it.evs x hx).2 hI (by decide) hg⟩⟩
            map := ha.map, few := ha.few, lob := ha.lob }
    a2 := h.a2.more f.it f.inn (by omega) f.fed f.only f.few hg hr
    tab := tab_grow (h.tab.only f.only (by omega)) hI (by omega) hg
    ord := hl
    va := h.va
    sz := Nat.le_trans (Nat.le_trans h.sz f.only.size) hg.size }
set_option maxHeartbeats 8000000 in
theorem huntChunks_law (oa : Option Addr) (len cap : Nat) (F : Nat → ByteArray) (W : World) (h : SlArg W oa len cap (fun i => .string (F i))) (hz : cap * 16 ≤ 140737488351232) (_hx : ∀ i, i < len → (F i).size ≤ maxLen) :
    Calls Try.prog 4 #[.slice oa len cap] W fun e W' => e = .returned (.bool true) ∧ Below W.heap.size W W' := by
  obtain ⟨i0, hi0, hz0, hz1, hz2⟩ := itm_info
  have HH := Lib.hid (And.intro h hz)
  have hl0 : len ≤ cap ∧ cap ≤ maxLen := ⟨h.1, h.2.1⟩
  have hl1 : len ≤ 8796093021952 := by omega
  clear h hz _hx
  go_enter Try.func4, Try.ntmps4
  go_wp2_with fail
  refine (awake9 W).mono ?_
  rintro x w1 ⟨rfl, hB1⟩
  have hg := great9_any w1 oa len cap F ⟨HH.out.1.1, HH.out.1.2.1, fun i hi => by
    obtain ⟨b', off, e1, e2, e3⟩ := HH.out.1.2.2 i hi
    exact ⟨b', off, e1, Nat.lt_of_lt_of_le e2 hB1.size, (hB1.cell e2).trans e3⟩⟩ HH.out.2
  go_wp2_with fail
  refine hg.mono ?_
  rintro x w2 ⟨⟨n, rfl, hn⟩, rfl⟩
  clear hg
  by_cases hgr : 4000 < n
  · have hgr' : (4000 : Int) < (n : Int) := by omega
    go_wp2_with fail
    refine (awake9 _).mono ?_
    rintro x w3 ⟨rfl, hk⟩
    have hB3 := hB1.trans (hk.mono hB1.size)
    go_wp2_with fail
    go_ret
    exact ⟨rfl, hB3⟩
  · have hgr' : ¬ (4000 : Int) < (n : Int) := by omega
    have HG := Lib.hid (hn (by omega))
    clear hn
    go_wp2_with fail
    refine (make_any w1).mono ?_
    rintro x w2 ⟨rfl, hT, hk⟩
    have hB2 := hB1.trans (hk.mono hB1.size)
    have hlo1 := hB1.size
    obtain ⟨tb, htb⟩ : ∃ tb, tb = w1.heap.size := ⟨_, rfl⟩
    rw [← htb] at hT ⊢ hlo1
    have htl : tb < w2.heap.size := by obtain ⟨C, h1, _⟩ := hT; exact blk_lt h1
    clear htb hk hB1
    go_wp2_with fail
    refine (hnew_any w2 tb).mono ?_
    rintro x w3 ⟨rfl, hH1, hk⟩
    have hB3 := hB2.trans (hk.mono hB2.size)
    have hT3 := hT.kept hk
    obtain ⟨b1, hb1⟩ : ∃ b1, b1 = w2.heap.size := ⟨_, rfl⟩
    rw [← hb1] at hH1 htl ⊢
    clear hb1 hk hB2 hT
    go_wp2_with fail
    refine (hnew_any w3 tb).mono ?_
    rintro x w4 ⟨rfl, hH2, hk⟩
    have hB4 := hB3.trans (hk.mono hB3.size)
    have hT4 := hT3.kept hk
    have hH14 := hH1.below hk
    have hb12 : b1 < w3.heap.size := blk_lt hH1
    obtain ⟨b2, hb2⟩ : ∃ b2, b2 = w3.heap.size := ⟨_, rfl⟩
    rw [← hb2] at hH2 hb12 ⊢
    clear hb2 hk hB3 hT3 hH1
    have st0 : ChSt W tb b1 b2 (catG F 0) (gO (catG F 0)) false (.slice none 0 0) [] w4 :=
      have e0 : gO (catG F 0) = hs0 := gO_nil
      { bel := hB4, acc := by rw [e0]; exact { fed := Fed.new hH14, it := ItIn.nil _ _, map := rfl, few := hs0_ok, lob := by omega }, h2 := hH2, tab := hT4, lo := ⟨hlo1, htl, hb12⟩ }
    clear hB4 hT4 hH14 hH2 hlo1 htl hb12
    go_upto_region 9 with fail
    go_loopg [8, 9, 12, 33] (len) (fun g al a u12 i wr => ∃ (j : Nat) (its : List Itm) (ao : Option Addr) (cp : Nat), al = .string (catG F j) ∧ a = .slice ao its.length cp ∧ i = .int .i64 j ∧ j ≤ len ∧ ChSt W tb b1 b2 (catG F j) (gO (catG F j)) false (.slice ao its.length cp) its wr ∧ len - j ≤ g)
    case atStart => exact ⟨0, [], none, 0, rfl, rfl, rfl, Nat.zero_le _, st0, Nat.le_refl _⟩
    case round =>
      clear st0
      obtain ⟨j, its, ao, cp, rfl, rfl, rfl, hj, st, hg⟩ := hrel
      by_cases hlt : j < len
      · have hlt' : (j : Int) < len := by omega
        obtain ⟨bl, off, rfl, hbl, hcell⟩ := HH.out.1.2.2 j hlt
        have hcell : wr.cell? ⟨bl, off + j, none⟩ = some (.string (F j)) := (st.bel.cell hbl).trans hcell
        have hs1 := (catG_great HG.out (j + 1) (by omega)).2
        have hs2 : (catG F j).size + (F j).size ≤ 4000 := by have := hs1; rw [catG, ByteArray.size_append] at this; exact this
        have hmx : (catG F j).size + (F j).size ≤ maxLen := by unfold maxLen; omega
        have hlo := st.lo
        have hfd := feed_abs st.acc.fed (F j) st.tab (by omega) (by omega)
        rw [gO_app, show catG F j ++ F j = catG F (j + 1) from rfl] at hfd
        have hfew := (gO_few (catG F (j + 1))).1
        have hlw : b2 + 1 ≤ wr.heap.size := blk_lt st.h2
        go_upto_region 13 with (first | (go_at_call 21; (refine hfd.mono ?_); intro x w5 hx5; obtain ⟨ao5, cap5, m5, rfl, h5⟩ := fd5_of (lo := b2 + 1) (cl := false) (T := catG F j) hx5 hfew; clear hx5; have hi5 := (st.acc.it.only h5.only fun k hk => by rw [hk]; omega).own; have hsr5 := src_own h5.inn.own (itCells_length _); have hone5 := itCells_one h5.inn.evs; have hb5 : b2 + 1 ≤ w5.heap.size := Nat.le_trans hlw h5.only.size; have hl5 := h5.len st.acc hs1) | (at_builtin; (refine list_append rfl (.tmp 40) (.tmp 43) 35 rfl (b2 + 1) hb5 44 i0 _ 4 40 ul_items hi0 hz0 hz1 hz2 rfl (by decide) (.slice ao its.length cp) its.length (itCells its) rfl hi5 _ m5.length (itCells m5) rfl (itCells_length _) hsr5 hone5 (by unfold maxLen; omega) (by omega) ?_); intro ao7 cp7 w7 hown5 hg5 hat5; have st7 := st.more h5 hown5 hg5; clear hat5 hg5 hown5 h5 hi5 hsr5 hone5 hb5 hl5))
        go_wp2_with fail
        obtain ⟨g, rfl⟩ : ∃ g, gk = g + 1 := ⟨gk - 1, by omega⟩
        go_roundg g
        case measure => omega
        case rel => exact ⟨j + 1, its ++ m5, ao7, cp7, rfl, by rw [List.length_append], by go_num, by omega, by rw [List.length_append]; exact st7, by omega⟩
      · have hlt' : ¬ (j : Int) < len := by omega
        obtain rfl : j = len := by omega
        have hs1 := (catG_great HG.out j (by omega)).2
        generalize catG F j = T at *
        have hlo := st.lo
        have hfd := close_abs st.acc.fed st.tab (by omega) (by omega)
        rw [gC_of] at hfd
        have hfew := (gC_few T).1
        have hlw : b2 + 1 ≤ wr.heap.size := blk_lt st.h2
        go_upto_region 15 with (first | (go_at_call 22; (refine hfd.mono ?_); intro x w5 hx5; obtain ⟨ao5, cap5, m5, rfl, h5⟩ := fd5_of (lo := b2 + 1) (cl := false) (T := T) hx5 hfew; clear hx5; have hi5 := (st.acc.it.only h5.only fun k hk => by rw [hk]; omega).own; have hsr5 := src_own h5.inn.own (itCells_length _); have hone5 := itCells_one h5.inn.evs; have hb5 : b2 + 1 ≤ w5.heap.size := Nat.le_trans hlw h5.only.size; have hl5 := h5.len st.acc hs1) | (at_builtin; (refine list_append rfl (.tmp 46) (.tmp 48) 35 rfl (b2 + 1) hb5 44 i0 _ 4 40 ul_items hi0 hz0 hz1 hz2 rfl (by decide) (.slice ao its.length cp) its.length (itCells its) rfl hi5 _ m5.length (itCells m5) rfl (itCells_length _) hsr5 hone5 (by unfold maxLen; omega) (by omega) ?_); intro ao7 cp7 w7 hown5 hg5 hat5; have st7 := st.more h5 hown5 hg5; clear hat5 hg5 hown5 h5 hi5 hsr5 hone5 hb5 hl5))
        clear st hfd hlw
        have st8 := st7.turn
        generalize hlo7 : w7.heap.size = lo7 at st8
        have hfd := feed_abs st8.a2.fed T st8.tab (by omega) (by show 0 + T.size ≤ _; omega)
        rw [nil_app, show hfin T false hs0 = gO T from rfl] at hfd
        have hfew := (gO_few T).1
        have hb2l := st8.a2.lob
        have hlw := st8.sz
        clear hlo7 st7
        go_upto_region 16 with (first | (go_at_call 21; (refine hfd.mono ?_); intro x w5 hx5; obtain ⟨ao5, cap5, m5, rfl, h5⟩ := fd5_of (lo := lo7) (cl := false) (T := ⟨#[]⟩) hx5 hfew; clear hx5; have hi5 := (st8.a2.it.only h5.only fun k hk => by rw [hk]; exact hb2l).own; have hsr5 := src_own h5.inn.own (itCells_length _); have hone5 := itCells_one h5.inn.evs; have hb5 : lo7 ≤ w5.heap.size := Nat.le_trans hlw h5.only.size; have hl5 := h5.len st8.a2 hs1) | (at_builtin; (refine list_append rfl (.tmp 50) (.tmp 53) 35 rfl lo7 hb5 44 i0 _ 4 40 ul_items hi0 hz0 hz1 hz2 rfl (by decide) (.slice none 0 0) 0 (itCells []) rfl hi5 _ m5.length (itCells m5) rfl (itCells_length _) hsr5 hone5 (by unfold maxLen; omega) (by omega) ?_); intro ao9 cp9 w9 hown5 hg5 hat5; have st9 := st8.more h5 hown5 hg5; clear hat5 hg5 hown5 h5 hi5 hsr5 hone5 hb5 hl5))
        rw [Nat.zero_add, List.nil_append] at st9
        have st10 := st9
        obtain ⟨m8, hm8⟩ : ∃ x, x = m5 := ⟨_, rfl⟩
        rw [← hm8] at st10 ⊢
        clear st9 hm8 hfd hfew
        have hfd := close_abs st10.a2.fed st10.tab (by omega) (by omega)
        rw [gC_of] at hfd
        have hfew := (gC_few T).1
        have hlw := st10.sz
        go_upto_region 17 with (first | (go_at_call 22; (refine hfd.mono ?_); intro x w5 hx5; obtain ⟨ao5, cap5, m5, rfl, h5⟩ := fd5_of (lo := lo7) (cl := false) (T := T) hx5 hfew; clear hx5; have hi5 := (st10.a2.it.only h5.only fun k hk => by rw [hk]; exact hb2l).own; have hsr5 := src_own h5.inn.own (itCells_length _); have hone5 := itCells_one h5.inn.evs; have hb5 : lo7 ≤ w5.heap.size := Nat.le_trans hlw h5.only.size; have hl5 := h5.len st10.a2 hs1) | (at_builtin; (refine list_append rfl (.tmp 55) (.tmp 57) 35 rfl lo7 hb5 44 i0 _ 4 40 ul_items hi0 hz0 hz1 hz2 rfl (by decide) (.slice ao9 m8.length cp9) m8.length (itCells m8) rfl hi5 _ m5.length (itCells m5) rfl (itCells_length _) hsr5 hone5 (by unfold maxLen; omega) (by omega) ?_); intro ao11 cp11 w11 hown5 hg5 hat5; have st11 := st10.more h5 hown5 hg5; clear hat5 hg5 hown5 h5 hi5 hsr5 hone5 hb5 hl5))
        clear hfd hfew hlw
        have ha := st11.a1.it
        have hb := st11.a2.it
        have hab := st11.a1.map.trans st11.a2.map.symm
        have hfl := st11.a1.few_len hs1
        rw [← List.length_append] at ha hb
        have hsm := rsame9_any ha hb hab (by omega) (fun x hx => Nat.le_trans (hfl.2 x hx) (by decide))
        rw [List.length_append, List.length_append] at hsm
        have k1 := fun n => hskipped_any (w11.drewN n) b1 tb _ _ _ _ _ st11.a1.fed.hu
        have k2 := fun n => hskipped_any (w11.drewN n) b2 tb _ _ _ _ _ st11.a2.fed.hu
        have k3 := fun n => hlost_any (w11.drewN n) b1 tb _ _ _ _ _ st11.a1.fed.hu
        have k4 := fun n => hlost_any (w11.drewN n) b2 tb _ _ _ _ _ st11.a2.fed.hu
        go_wp2_with (first | (go_at_call 23; (refine hsm.mono ?_); rintro x wS ⟨rfl, n9, rfl⟩) | (go_at_call_of 26 b1; (refine (k1 _).mono ?_); rintro x wS ⟨rfl, rfl⟩) | (go_at_call_of 26 b2; (refine (k2 _).mono ?_); rintro x wS ⟨rfl, rfl⟩) | (go_at_call_of 27 b1; (refine (k3 _).mono ?_); rintro x wS ⟨rfl, rfl⟩) | (go_at_call_of 27 b2; (refine (k4 _).mono ?_); rintro x wS ⟨rfl, rfl⟩))
        go_ret
        exact ⟨rfl, below_drewN st11.bel _⟩
end Go.Proofs.Ythdenjokedmcfaa
