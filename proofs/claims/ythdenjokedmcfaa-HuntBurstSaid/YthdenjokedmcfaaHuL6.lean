/- The walk of the statement of layer 9: HuntBurst. (Printed by gen_hul6.py.) -/
import Derived.Test.YthdenjokedmcfaaHuL5
import Derived.Test.YthdenjokedmcfaaBW
namespace Go.Proofs.Ythdenjokedmcfaa
open Go.WideShapes Go.Deep Go.RowKit
set_option linter.unusedVariables false
set_option linter.unusedSimpArgs false
set_option maxRecDepth 20000
/-- The frames that are left. -/
def leftN (K : List FrV) (Kf : Nat → Bool) : Nat → List FrV
  | 0 => []
  | i + 1 => if Kf i then leftN K Kf i ++ [K.getD i default] else leftN K Kf i
theorem getD_snoc (L : List FrV) (f : FrV) : (L ++ [f]).getD L.length default = f := by
  rw [List.getD_eq_getElem?_getD, List.getElem?_append_right (Nat.le_refl _), Nat.sub_self]; rfl
theorem getD_snoc_lt (L : List FrV) (f : FrV) {i : Nat} (h : i < L.length) : (L ++ [f]).getD i default = L.getD i default := by
  rw [List.getD_eq_getElem?_getD, List.getElem?_append_left h, ← List.getD_eq_getElem?_getD]
theorem toldI_app (L : List FrV) (f : FrV) : ∀ i, i ≤ L.length → toldI (L ++ [f]) i = toldI L i
  | 0, _ => rfl
  | i + 1, h => by rw [toldI, toldI, toldI_app L f i (by omega), getD_snoc_lt L f (by omega)]
theorem leftN_len (K : List FrV) (Kf : Nat → Bool) : ∀ n, (leftN K Kf n).length ≤ n
  | 0 => Nat.le_refl _
  | n + 1 => by
    have := leftN_len K Kf n
    rw [leftN]
    split
    · rw [List.length_append, List.length_singleton]; omega
    · omega
theorem left_told (K : List FrV) (Kf : Nat → Bool) : ∀ n, (toldI (leftN K Kf n) (leftN K Kf n).length).1.map Itm.p = (toldN (kF K) Kf n).1 ∧ (toldI (leftN K Kf n) (leftN K Kf n).length).2 = (toldN (kF K) Kf n).2
  | 0 => ⟨rfl, rfl⟩
  | n + 1 => by
    obtain ⟨h1, h2⟩ := left_told K Kf n
    rw [leftN, toldN]
    cases hk : Kf n with
    | false => exact ⟨h1, h2⟩
    | true =>
      rw [if_pos rfl, if_pos rfl, List.length_append, List.length_singleton, toldI, toldI_app _ _ _ (Nat.le_refl _), getD_snoc]
      refine ⟨?_, rfl⟩
      rw [List.map_append, h1, h2, List.map_append]
      congr 1
      show _ = told _ _ _
      unfold told gapI
      have e : (kF K n).1 = (K.getD n default).seq := rfl
      rw [e]
      split <;> rfl
theorem left_ok {w : World} {K : List FrV} {nx : Nat} (h : KOk w K nx) (Kf : Nat → Bool) : ∀ n, n ≤ K.length → ∀ q, q < (leftN K Kf n).length → ((leftN K Kf n).getD q default).Ok w ∧ (toldI (leftN K Kf n) q).2 ≤ ((leftN K Kf n).getD q default).seq ∧ ((leftN K Kf n).getD q default).seq ≤ 100
  | 0, _, q, hq => absurd hq (Nat.not_lt_zero _)
  | n + 1, hn, q, hq => by
    have ih := left_ok h Kf n (by omega)
    rw [leftN] at hq ⊢
    cases hk : Kf n with
    | false =>
      rw [hk] at hq
      exact ih q hq
    | true =>
      rw [hk] at hq
      simp only [if_pos] at hq ⊢
      rw [List.length_append, List.length_singleton] at hq
      rcases Nat.lt_or_ge q (leftN K Kf n).length with h9 | h9
      · rw [getD_snoc_lt _ _ h9, toldI_app _ _ _ (by omega)]
        exact ih q h9
      · obtain rfl : q = (leftN K Kf n).length := by omega
        rw [getD_snoc, toldI_app _ _ _ (Nat.le_refl _), (left_told K Kf n).2]
        have h3 := h.at (show n < K.length by omega)
        exact ⟨h3.1, h.next (by omega), by have := h3.2.2; omega⟩
theorem cat_len9 {G : Nat → PFr} {nf : Nat} (hg : ∀ i, i < nf → GoodF (G i)) : ∀ i, i ≤ nf → (cat (fun i => frT (G i)) i).length ≤ 179 * i
  | 0, _ => Nat.zero_le _
  | i + 1, h => by
    have ih := cat_len9 hg i (by omega)
    have := frT_len2 (hg i (by omega))
    rw [cat, List.length_append]
    omega
theorem frCells_snoc (L : List FrV) (f : FrV) : frCells (L ++ [f]) = frCells L ++ [.int .u32 f.seq, .slice f.oa f.len f.cap] := by simp [frCells]
set_option maxHeartbeats 8000000 in
theorem huntBurst_law (oa : Option Addr) (len cap : Nat) (z : Nat → FrV) (n : Int) (p : Int) (W : World) (h0 : SlArgN W oa len cap 2 (fun i j => (z i).c j)) (hz : cap * 32 ≤ 140737488351232) (hx : ∀ i, i < len → (z i).Ok W) (_hn : (Lit.int .i64 n).wf = true) (hp : (Lit.int .u32 p).wf = true) :
    Calls Try.prog 6 #[.slice oa len cap, .int .i64 n, .int .u32 p] W fun e W' => e = .returned (.bool true) ∧ Below W.heap.size W W' := by
  obtain ⟨i0, hi0, hz0, hz1, hz2⟩ := itm_info
  obtain ⟨i1, hi1, hz11, hz12, hz13⟩ := fr_info
  obtain ⟨pt, rfl, hpt⟩ := u32_of hp
  have HH := Lib.hid (And.intro h0 hx)
  have hl0 : len ≤ cap ∧ cap ≤ maxLen := ⟨h0.1, h0.2.1⟩
  have hl3 : len ≤ 4398046510976 := by omega
  clear h0 hz hx _hn hp
  go_enter Try.func6, Try.ntmps6
  go_wp2_with fail
  refine (awake9 W).mono ?_
  rintro x w1 ⟨rfl, hB1⟩
  by_cases hbig : 100 < len
  · have hbig' : (100 : Int) < (len : Int) := by omega
    go_wp2_with fail
    refine (awake9 _).mono ?_
    rintro x w3 ⟨rfl, hk⟩
    have hB3 := hB1.trans (hk.mono hB1.size)
    go_wp2_with fail
    go_ret
    exact ⟨rfl, hB3⟩
  have hbig' : ¬ (100 : Int) < (len : Int) := by omega
  by_cases n0 : n < 0
  · go_wp2_with fail
    refine (awake9 _).mono ?_
    rintro x w3 ⟨rfl, hk⟩
    have hB3 := hB1.trans (hk.mono hB1.size)
    go_wp2_with fail
    go_ret
    exact ⟨rfl, hB3⟩
  by_cases n1 : 20000 < n
  · go_wp2_with fail
    refine (awake9 _).mono ?_
    rintro x w3 ⟨rfl, hk⟩
    have hB3 := hB1.trans (hk.mono hB1.size)
    go_wp2_with fail
    go_ret
    exact ⟨rfl, hB3⟩
  obtain ⟨a, rfl⟩ : ∃ a : Nat, n = a := ⟨n.toNat, by omega⟩
  have hris := rising_any w1 oa len cap z ((HH.out.1).kept (Below.mono hB1 (Nat.le_refl _))) (fun i hi => (HH.out.2 i hi).kept hB1) (by omega)
  go_upto_region 6 with ((go_at_call 30; (refine hris.mono ?_); rintro x w2 ⟨K, nx, ao, cp, ao2, cp2, rfl, st⟩))
  clear hris
  have hB2 : Below W.heap.size W w2 := hB1.trans (st.bel.mono hB1.size)
  have hfew := st.ok.few
  have hgood : ∀ i, i < K.length → GoodF (kF K i) := fun i hi => (st.ok.at hi).2.1
  have hcl := cat_len9 hgood
  have HM := Lib.hid (And.intro hgood hcl)
  clear hgood hcl
  go_loopg [9, 11, 44] (K.length) (fun g al u11 i wr => ∃ (k : Nat) (X : ByteArray), al = .string X ∧ i = .int .i64 k ∧ k ≤ K.length ∧ X.data.toList = cat (fun i => frT (kF K i)) k ∧ K.length - k ≤ g ∧ w2 = wr)
  case atStart => exact ⟨0, ⟨#[]⟩, rfl, rfl, Nat.zero_le _, rfl, Nat.le_refl _, rfl⟩
  case round =>
    obtain ⟨k, X, rfl, rfl, hk, hX, hg, rfl⟩ := hrel
    have hXs : X.size ≤ 1432 := by
      have h1 := HM.out.2 k hk
      have h3 := congrArg List.length hX
      have h4 : X.data.toList.length = X.size := by simp
      omega
    have HX := Lib.hid hX
    clear hX
    by_cases hlk : k < K.length
    · have q2 : (k : Int) < K.length := by omega
      have hXm : X.size + 8000 ≤ maxLen := by unfold maxLen; omega
      have hXs2 : (⟨(frT (kF K k)).toArray⟩ : ByteArray).size ≤ 180 := by
        have h1 := frT_len2 (HM.out.1 k (by omega))
        show (List.toArray _).size ≤ 180
        simp only [List.size_toArray]
        omega
      obtain ⟨gt, rfl, t1, t2, tcell⟩ := txt_cell st.tx rfl (show k < K.length by omega)
      obtain ⟨TX, hTX⟩ : ∃ TX, TX = (⟨(frT (kF K k)).toArray⟩ : ByteArray) := ⟨_, rfl⟩
      rw [← hTX] at hXs2 tcell
      have HTX := Lib.hid hTX
      clear hTX
      go_wp2_with fail
      obtain ⟨g, rfl⟩ : ∃ g, gk = g + 1 := ⟨gk - 1, by omega⟩
      go_roundg g
      case measure => omega
      case rel =>
        refine ⟨k + 1, X ++ TX, rfl, by go_num, by omega, ?_, by omega, rfl⟩
        rw [cat, ← HX.out]
        simp [HTX.out]
    · have q2 : ¬ (k : Int) < K.length := by omega
      have hke : k = K.length := by omega
      have hsp := spoil_any X a pt (by omega) hpt (by omega) w2
      have hln := spo_len 32 X.data.toList a pt false
      have hnr := spo_near 32 X.data.toList a pt false
      rw [HX.out, hke] at hln hnr
      rw [HX.out, hke] at hsp
      generalize spo 32 (cat (fun i => frT (kF K i)) K.length) a pt false = r at hsp hln hnr
      obtain ⟨l, an⟩ := r
      simp only at hsp hln hnr
      obtain ⟨SP, hSP⟩ : ∃ SP : ByteArray, SP = ⟨l.toArray⟩ := ⟨_, rfl⟩
      rw [← hSP] at hsp
      have hSPs : SP.size = X.size := by
        have h3 := congrArg List.length HX.out
        have h4 : X.data.toList.length = X.size := by simp
        rw [hke, ← hln] at h3
        rw [hSP]
        show (List.toArray l).size = _
        rw [List.size_toArray]
        omega
      have HS := Lib.hid (And.intro hSP (And.intro hln hnr))
      clear hSP hln hnr
      go_upto_region 14 with ((go_at_call 31; (refine hsp.mono ?_); rintro x w3 ⟨rfl, hk3⟩))
      clear hsp hg
      obtain ⟨Kf, hKf⟩ : ∃ Kf : Nat → Bool, Kf = fun i => decide ((l.drop (cat (fun i => frT (kF K i)) i).length).take (frT (kF K i)).length = frT (kF K i)) := ⟨_, rfl⟩
      have HK := Lib.hid hKf
      clear hKf
      have hB3 : Below w2.heap.size w2 w3 := hk3
      clear hk3
      subst hke
      go_loopg [14, 15, 16, 17, 61] (K.length) (fun g lv fv u16 u17 i wr => ∃ (k : Nat) (ao3 : Option Addr) (cp3 : Nat), lv = .slice ao3 (leftN K Kf k).length cp3 ∧ fv = .int .i64 ((cat (fun i => frT (kF K i)) k).length : Nat) ∧ i = .int .i64 k ∧ k ≤ K.length ∧ Below w2.heap.size w2 wr ∧ wr.ownsRow w2.heap.size 48 2 (.slice ao3 (leftN K Kf k).length cp3) (leftN K Kf k).length (frCells (leftN K Kf k)) ∧ K.length - k ≤ g)
      case atStart => exact ⟨0, none, 0, rfl, rfl, rfl, Nat.zero_le _, hB3, World.ownsRow_nil _ _ _ _, Nat.le_refl _⟩
      case round =>
        clear hB3
        obtain ⟨k, ao3, cp3, rfl, rfl, rfl, hk, hB3, hown, hg⟩ := hrel
        have hll := leftN_len K Kf k
        by_cases hlk : k < K.length
        · have q3 : (k : Int) < K.length := by omega
          obtain ⟨gt, rfl, t1, t2, tcell⟩ := txt_cell st.tx rfl (show k < K.length by omega)
          have tcell := (hB3.cell (st.tx.lt gt rfl).2).trans tcell
          have hTs : (⟨(frT (kF K k)).toArray⟩ : ByteArray).size = (frT (kF K k)).length := by show (List.toArray _).size = _; simp
          have hbd : (cat (fun i => frT (kF K i)) k).length + (frT (kF K k)).length ≤ SP.size := by
            obtain ⟨Q, hQ⟩ := cat_at (fun i => frT (kF K i)) hlk
            have h3 := congrArg List.length hQ
            rw [List.length_append, List.length_append] at h3
            have h5 := HS.out.2.1
            have h6 : SP.size = l.length := by rw [HS.out.1]; show (List.toArray l).size = _; simp
            omega
          have hcs : (cat (fun i => frT (kF K i)) (k + 1)).length = (cat (fun i => frT (kF K i)) k).length + (frT (kF K k)).length := by rw [cat, List.length_append]
          have hkk : ((SP.extract (cat (fun i => frT (kF K i)) k).length ((cat (fun i => frT (kF K i)) k).length + (frT (kF K k)).length)).toList == (⟨(frT (kF K k)).toArray⟩ : ByteArray).toList) = Kf k := by
            rw [ByteArray.toList_eq, ByteArray.toList_eq, ext_take, HK.out, HS.out.1, Nat.add_sub_cancel_left]
            rw [Bool.eq_iff_iff]
            simp
          have HCS := Lib.hid hcs
          clear hcs
          obtain ⟨TX, hTX⟩ : ∃ TX, TX = (⟨(frT (kF K k)).toArray⟩ : ByteArray) := ⟨_, rfl⟩
          rw [← hTX] at hTs tcell hkk
          rw [← hTs] at hbd hkk HCS
          have HTX := Lib.hid hTX
          clear hTX hTs
          generalize hoff : (cat (fun i => frT (kF K i)) k).length = off at *
          obtain ⟨gf, rfl, f1, f2, fcell⟩ := frOwn_cell st.fr rfl (show 0 < K.length by omega)
          have hbf := (st.fr.lt gf rfl).2
          have c0 := (hB3.cell hbf).trans (fcell k hlk).1
          have c1 := (hB3.cell hbf).trans (fcell k hlk).2
          have hL1 : leftN K Kf (k + 1) = if Kf k then leftN K Kf k ++ [K.getD k default] else leftN K Kf k := rfl
          clear fcell
          generalize K.getD k default = f at *
          obtain ⟨sq, foa, fl, fc, fz⟩ := f
          simp only at c0 c1
          cases hkf : Kf k with
          | true =>
            rw [hkf] at hkk
            rw [hkf, if_pos rfl] at hL1
            have HL1 := Lib.hid hL1
            clear hL1 hkf
            have hal := (Below.refl wr.heap.size wr).alloc (Nat.le_refl _) (.cells #[.int .u32 sq, .slice foa fl fc] 48)
            have row5 := own_below hown hal
            have hB5 := hB3.trans (hal.mono hB3.size)
            have hb5 := hB5.size
            have hsr5 := src_lit wr #[.int .u32 sq, .slice foa fl fc] 48 1
            have hone5 : ∀ u ∈ [Value.int .u32 sq, .slice foa fl fc], u.oneCell' = true := by
              intro u hu
              simp only [List.mem_cons, List.not_mem_nil, or_false] at hu
              rcases hu with rfl | rfl <;> rfl
            generalize hLK : leftN K Kf k = LK at *
            go_upto_region 18 with (at_builtin; (refine list_append rfl (.tmp 75) (.tmp 80) 49 rfl w2.heap.size hb5 48 i1 _ 2 32 ul_frs hi1 hz11 hz12 hz13 rfl (by decide) (.slice ao3 LK.length cp3) LK.length (frCells LK) rfl row5 _ 1 [.int .u32 sq, .slice foa fl fc] rfl rfl hsr5 hone5 (by unfold maxLen; omega) (by omega) ?_); intro ao6 cp6 w8 hown6 hg6 hat6; have hB6 := below_append hB5 row5 hg6 hb5; clear hat6 hg6)
            clear hal row5 hB5 hb5 hsr5 hone5 c0 c1 hown hB3
            go_wp2_with fail
            obtain ⟨g, rfl⟩ : ∃ g, gk = g + 1 := ⟨gk - 1, by omega⟩
            go_roundg g
            case measure => omega
            case rel =>
              refine ⟨k + 1, ao6, cp6, ?_, ?_, by go_num, by omega, hB6, ?_, by omega⟩
              · rw [HL1.out, List.length_append]; rfl
              · rw [HCS.out]; go_num
              · rw [HL1.out, List.length_append, frCells_snoc]; exact hown6
          | false =>
            rw [hkf] at hkk
            rw [hkf, if_neg (by decide)] at hL1
            have HL1 := Lib.hid hL1
            clear hL1 hkf
            go_wp2_with fail
            obtain ⟨g, rfl⟩ : ∃ g, gk = g + 1 := ⟨gk - 1, by omega⟩
            go_roundg g
            case measure => omega
            case rel =>
              refine ⟨k + 1, ao3, cp3, ?_, ?_, by go_num, by omega, hB3, ?_, by omega⟩
              · rw [HL1.out]
              · rw [HCS.out]; go_num
              · rw [HL1.out]; exact hown
        · have q3 : ¬ (k : Int) < K.length := by omega
          obtain rfl : k = K.length := by omega
          have hSPs9 : SP.size ≤ 1432 := by omega
          have hBx : Below W.heap.size W wr := hB2.trans (hB3.mono hB2.size)
          go_wp2_with fail
          refine (make_any wr).mono ?_
          rintro x w3 ⟨rfl, hT, hk3⟩
          have htl : wr.heap.size < w3.heap.size := by obtain ⟨C, h1, _⟩ := hT; exact blk_lt h1
          go_wp2_with fail
          refine (hnew_any w3 wr.heap.size).mono ?_
          rintro x w4 ⟨rfl, hH1, hk⟩
          have hB4 := hk3.trans (hk.mono hk3.size)
          have hT4 := hT.kept hk
          have st0 : OnSt wr wr.heap.size w3.heap.size ⟨#[]⟩ hs0 false (.slice none 0 0) [] w4 :=
            { bel := hB4, acc := { fed := Fed.new hH1, it := ItIn.nil _ _, map := rfl, few := hs0_ok, lob := by omega }, tab := hT4, lo := ⟨Nat.le_refl _, htl⟩, bs := blk_lt hH1 }
          clear hk hk3 hT hB4 hT4 hH1 htl
          have hlo0 := st0.lo
          have hfd : Calls Try.prog 21 #[.pointer (some ⟨w3.heap.size, 0, none⟩), .string SP] w4 (FedPost w4 w3.heap.size wr.heap.size SP hs0 (gO SP) false) := by
            have h9 := feed_abs st0.acc.fed SP st0.tab (by omega) (by show 0 + SP.size ≤ _; omega)
            rw [nil_app] at h9
            exact h9
          have hfew9 := (gO_few SP).1
          go_wp2_with fail
          refine hfd.mono ?_
          intro x w5 hx5
          obtain ⟨ao4, cap4, m4, rfl, h4⟩ := fd6_of hx5 hfew9
          clear hx5 hfd hfew9
          have st4 := st0.first rfl h4
          have hlen4 : m4.length ≤ 2 * 1432 := (st4.acc.few_len2 hSPs9).1
          clear st0 h4
          have hbs := st4.bs
          have hfd := close_abs st4.acc.fed st4.tab (by omega) (by omega)
          rw [gC_of] at hfd
          have hfew9 := (gC_few SP).1
          go_upto_region 23 with (first | (go_at_call 22; (refine hfd.mono ?_); intro x w5 hx5; obtain ⟨ao5, cap5, m5, rfl, h5⟩ := fd6_of hx5 hfew9; clear hx5; have hi5 := (st4.acc.it.only h5.only fun k hk => by rw [hk]; omega).own; have hsr5 := src_own h5.inn.own (itCells_length _); have hone5 := itCells_one h5.inn.evs; have hb5 : w3.heap.size + 1 ≤ w5.heap.size := Nat.le_trans st4.bs h5.only.size; have hl5 := h5.len st4.acc hSPs9) | (at_builtin; (refine list_append rfl (.tmp 95) (.tmp 97) 35 rfl (w3.heap.size + 1) hb5 44 i0 _ 4 40 ul_items hi0 hz0 hz1 hz2 rfl (by decide) (.slice ao4 m4.length cap4) m4.length (itCells m4) rfl hi5 _ m5.length (itCells m5) rfl (itCells_length _) hsr5 hone5 (by unfold maxLen; omega) (by omega) ?_); intro ao7 cp7 w7 hown5 hg5 hat5; have st7 := st4.more h5 hown5 hg5; clear hat5 hg5 hown5 h5 hi5 hsr5 hone5 hb5 hl5))
          clear st4 hfd hfew9 hbs
          have st9 : OnSt wr wr.heap.size w3.heap.size SP (gC SP) true (.slice ao7 (m4 ++ m5).length cp7) (m4 ++ m5) w7 := by rw [List.length_append]; exact st7
          have hB7 := st9.bel
          have hlf := left_ok st.ok Kf K.length (Nat.le_refl _)
          have hll := leftN_len K Kf K.length
          have hto := rtold_any w7 w2.heap.size ao3 cp3 (leftN K Kf K.length) (own_below hown hB7) (fun i hi => ((hlf i hi).1.kept st.bel).kept (hB3.trans (hB7.mono hB3.size))) (by omega) (fun i hi => (hlf i hi).2)
          have hpl := hunt_burst (F := kF K) HM.out.1 (fun i hi => st.ok.rise i hi) HS.out.2.1 HS.out.2.2 (X := SP) (by rw [HS.out.1]) (K := Kf) (fun i hi => by rw [HK.out])
          have he := st9.acc.map.trans (hpl.trans (left_told K Kf K.length).1.symm)
          clear hlf hll
          have hfl := st9.acc.few_len2 hSPs9
          have HE := Lib.hid (And.intro he hfl)
          clear he hfl hpl
          go_wp2_with fail
          refine hto.mono ?_
          rintro x w8 ⟨ao8, cp8, rfl, hsl8, hB8⟩
          clear hto
          have hsm := rsame9b_any (st9.acc.it.sl.below hB8) hsl8 HE.out.1 (by have := HE.out.2.1; omega) (fun x hx => by have := HE.out.2.2 x hx; omega)
          rw [List.length_append] at hsm
          go_wp2_with fail
          refine hsm.mono ?_
          rintro x w9 ⟨rfl, n9, rfl⟩
          clear hsm
          go_wp2_with fail
          go_ret
          exact ⟨rfl, ((hBx.trans (hB7.mono hBx.size)).trans (hB8.mono (Nat.le_trans hBx.size hB7.size))).trans ((kept_drewN _ n9).mono (by have := hBx.size; have := hB7.size; have := hB8.size; omega))⟩
end Go.Proofs.Ythdenjokedmcfaa
