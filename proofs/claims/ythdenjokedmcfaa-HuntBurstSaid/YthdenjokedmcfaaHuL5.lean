/- The walk of the statement of layer 9: HuntJunk. (Printed by gen_hul5.py.) -/
import Derived.Test.YthdenjokedmcfaaHuQ
namespace Go.Proofs.Ythdenjokedmcfaa
open Go.WideShapes Go.Deep Go.RowKit
set_option linter.unusedVariables false
set_option linter.unusedSimpArgs false
set_option maxRecDepth 20000
theorem toldN_congr {F : Nat → PFr} {K K' : Nat → Bool} : ∀ n, (∀ i, i < n → K i = K' i) → toldN F K n = toldN F K' n
  | 0, _ => rfl
  | n + 1, h => by rw [toldN, toldN, toldN_congr n fun i hi => h i (by omega), h n (by omega)]
theorem KOk.seq_le {w : World} {K : List FrV} {nx : Nat} (h : KOk w K nx) : ∀ (m i : Nat), i + m + 1 = K.length → (K.getD i default).seq + 1 ≤ nx
  | 0, i, hi => Nat.le_of_eq (h.last i hi)
  | m + 1, i, hi => by
    have h1 := h.rise i (by omega)
    have h2 := KOk.seq_le h m (i + 1) (by omega)
    have h3 : (K.getD i default).seq < (K.getD (i + 1) default).seq := h1
    omega
theorem KOk.at {w : World} {K : List FrV} {nx : Nat} (h : KOk w K nx) {i : Nat} (hi : i < K.length) : (K.getD i default).Ok w ∧ GoodF (kF K i) ∧ (K.getD i default).seq ≤ 40 := by
  have hm : K.getD i default ∈ K := by
    rw [List.getD_eq_getElem?_getD, List.getElem?_eq_getElem hi]
    exact List.getElem_mem _
  obtain ⟨h1, h2, h3⟩ := h.ok _ hm
  have h4 := h.seq_le (K.length - i - 1) i (by omega)
  have h5 := h.nx
  have h6 := h.few
  exact ⟨h1, h2, by omega⟩
theorem KOk.next {w : World} {K : List FrV} {nx : Nat} (h : KOk w K nx) {M : Nat → Bool} {i : Nat} (hi : i < K.length) : (toldN (kF K) M i).2 ≤ (kF K i).1 :=
  toldN_next (nf := K.length) (fun i hi => h.rise i hi) i hi
theorem txt_cell {w : World} {lo n cap : Nat} {ao : Option Addr} {K : List FrV} (h : w.ownsRow lo 9 1 (.slice ao n cap) n (txCells K)) (hn : n = K.length) {i : Nat} (hi : i < K.length) : ∃ g, ao = some ⟨g, 0, none⟩ ∧ n ≤ cap ∧ cap ≤ maxLen ∧ w.cell? ⟨g, i, none⟩ = some (.string ⟨(frT (kF K i)).toArray⟩) := by
  subst hn
  rcases h.2 with ⟨h1, h2⟩ | ⟨g, cp, cur, h1, hlo, hb, hnc, hcm, hrest⟩
  · omega
  · simp only [Value.slice.injEq] at h1
    obtain ⟨rfl, _, rfl⟩ := h1
    refine ⟨g, rfl, hnc, hcm, ?_⟩
    have := h.cells rfl i (.string ⟨(frT (kF K i)).toArray⟩) (by
      unfold txCells kF
      rw [List.getElem?_map, List.getD_eq_getElem?_getD, List.getElem?_eq_getElem hi]
      rfl)
    rw [Go.WideShapes.add_plain, Nat.zero_add] at this
    exact this
theorem mix_len {F : Nat → ByteArray} {G : Nat → PFr} {nf nj : Nat} (hg : ∀ i, i < nf → GoodF (G i)) : ∀ i, (cat (mixT G (fun i => (F i).data.toList) nf nj) i).length ≤ (catG F (min i nj)).size + 179 * min i nf
  | 0 => Nat.zero_le _
  | i + 1 => by
    have ih := mix_len (F := F) (nj := nj) hg i
    rw [cat, List.length_append, show mixT G (fun i => (F i).data.toList) nf nj i = (if i < nj then (F i).data.toList else []) ++ (if i < nf then frT (G i) else []) from rfl, List.length_append]
    have h1 : (if i < nj then (F i).data.toList else []).length + (catG F (min i nj)).size = (catG F (min (i + 1) nj)).size := by
      by_cases h : i < nj
      · rw [if_pos h, show min i nj = i by omega, show min (i + 1) nj = i + 1 by omega, catG, ByteArray.size_append]
        have : (F i).data.toList.length = (F i).size := by simp
        omega
      · rw [if_neg h, show min i nj = nj by omega, show min (i + 1) nj = nj by omega]; simp
    have h2 : (if i < nf then frT (G i) else []).length + 179 * min i nf ≤ 179 * min (i + 1) nf := by
      by_cases h : i < nf
      · rw [if_pos h, show min i nf = i by omega, show min (i + 1) nf = i + 1 by omega]
        have := frT_len2 (hg i h)
        omega
      · rw [if_neg h, show min i nf = nf by omega, show min (i + 1) nf = nf by omega]; simp
    omega
theorem OnSt.first {W : World} {tb b : Nat} {T T2 : ByteArray} {G R : HS} {cl cl2 : Bool} {v : Value} {wr w1 : World} {ao : Option Addr} {cap : Nat} {m : List Itm} (h : OnSt W tb b T G cl v [] wr) (hG : G.its = []) (f : Fd6 wr w1 b tb T2 G R cl2 ao cap m) : OnSt W tb b T2 R cl2 (.slice ao m.length cap) m w1 :=
  have hl := h.lo
  have hb := h.bs
  { bel := ((Only.of_below h.bel (fun k => k = b)).trans f.only fun _ _ x => x).below (Nat.le_refl _) fun i hi e => by omega
    acc := { fed := f.fed, it := ⟨World.ownsRow.mono f.inn.own (by omega), fun x hx => (f.inn.evs x hx).mono (by omega)⟩, map := by rw [f.it, hG, List.nil_append], few := f.few, lob := Nat.lt_succ_self _ }
    tab := h.tab.only f.only (by omega)
    lo := hl
    bs := Nat.lt_of_lt_of_le hb f.only.size }
theorem Acc.few_len2 {w : World} {lo b tb n : Nat} {T : ByteArray} {G : HS} {cl : Bool} {v : Value} {its : List Itm} (h : Acc w lo b tb T G cl v its) (hT : T.size ≤ n) : its.length ≤ 2 * n ∧ ∀ x ∈ its, x.evs.length ≤ 120 := by
  obtain ⟨g1, g2⟩ := h.few
  have hp := h.fed.ok.p
  rw [← h.map] at g1 g2
  rw [List.length_map] at g1
  exact ⟨by omega, fun x hx => g2 x.p (List.mem_map_of_mem hx)⟩
set_option maxHeartbeats 8000000 in
theorem huntJunk_law (oa : Option Addr) (len cap : Nat) (z : Nat → FrV) (oa' : Option Addr) (len' cap' : Nat) (F : Nat → ByteArray) (W : World) (h0 : SlArgN W oa len cap 2 (fun i j => (z i).c j)) (hz : cap * 32 ≤ 140737488351232) (hx : ∀ i, i < len → (z i).Ok W) (h1 : SlArg W oa' len' cap' (fun i => .string (F i))) (hz' : cap' * 16 ≤ 140737488351232) (_hx : ∀ i, i < len' → (F i).size ≤ maxLen) :
    Calls Try.prog 7 #[.slice oa len cap, .slice oa' len' cap'] W fun e W' => e = .returned (.bool true) ∧ Below W.heap.size W W' := by
  obtain ⟨i0, hi0, hz0, hz1, hz2⟩ := itm_info
  have HH := Lib.hid (And.intro h0 (And.intro hx (And.intro h1 hz')))
  have hl0 : len ≤ cap ∧ cap ≤ maxLen := ⟨h0.1, h0.2.1⟩
  have hl1 : len' ≤ cap' ∧ cap' ≤ maxLen := ⟨h1.1, h1.2.1⟩
  have hl2 : len' ≤ 8796093021952 := by omega
  have hl3 : len ≤ 4398046510976 := by omega
  clear h0 hz hx h1 hz' _hx
  go_enter Try.func7, Try.ntmps7
  go_wp2_with fail
  refine (awake9 W).mono ?_
  rintro x w1 ⟨rfl, hB1⟩
  by_cases hbig : 100 < len
  · have hbig' : (100 : Int) < (len : Int) := by omega
    go_wp2_with fail
    refine (awake9 _).mono ?_
    rintro x w3 ⟨rfl, hk⟩
    have hB3 := hB1.trans (hk.mono hB1.size)
    go_wp2_with fail
    go_ret
    exact ⟨rfl, hB3⟩
  have hbig' : ¬ (100 : Int) < (len : Int) := by omega
  have hg := great9_any w1 oa' len' cap' F ⟨HH.out.2.2.1.1, HH.out.2.2.1.2.1, fun i hi => by
    obtain ⟨b', off, e1, e2, e3⟩ := HH.out.2.2.1.2.2 i hi
    exact ⟨b', off, e1, Nat.lt_of_lt_of_le e2 hB1.size, (hB1.cell e2).trans e3⟩⟩ HH.out.2.2.2
  go_wp2_with fail
  refine hg.mono ?_
  rintro x w2 ⟨⟨n, rfl, hn⟩, rfl⟩
  clear hg
  by_cases hgr : 4000 < n
  · have hgr' : (4000 : Int) < (n : Int) := by omega
    go_wp2_with fail
    refine (awake9 _).mono ?_
    rintro x w3 ⟨rfl, hk⟩
    have hB3 := hB1.trans (hk.mono hB1.size)
    go_wp2_with fail
    go_ret
    exact ⟨rfl, hB3⟩
  have hgr' : ¬ (4000 : Int) < (n : Int) := by omega
  have HG := Lib.hid (hn (by omega))
  clear hn
  go_upto_region 4 with fail
  go_loopg [6, 7, 29] (len') (fun g u6 u7 i wr => ∃ j : Nat, i = .int .i64 j ∧ j ≤ len' ∧ (∀ q, q < j → ∀ b ∈ (F q).data.toList, b ≠ 255) ∧ len' - j ≤ g ∧ w1 = wr)
  case atStart => exact ⟨0, rfl, Nat.zero_le _, fun q hq => absurd hq (Nat.not_lt_zero _), Nat.le_refl _, rfl⟩
  case round =>
    obtain ⟨j, rfl, hj, hno, hg, rfl⟩ := hrel
    have HNO := Lib.hid hno
    clear hno
    by_cases hlt : j < len'
    · have hlt' : (j : Int) < len' := by omega
      obtain ⟨g, rfl⟩ : ∃ g, gk = g + 1 := ⟨gk - 1, by omega⟩
      obtain ⟨bl, off, rfl, hbl, hcell⟩ := HH.out.2.2.1.2.2 j hlt
      have hcell : w1.cell? ⟨bl, off + j, none⟩ = some (.string (F j)) := (hB1.cell hbl).trans hcell
      have hs1 := (catG_great HG.out (j + 1) (by omega)).2
      have hs2 : (F j).size ≤ 4000 := by rw [catG, ByteArray.size_append] at hs1; omega
      go_upto_region 7 with fail
      obtain ⟨S, hS⟩ : ∃ S, S = F j := ⟨_, rfl⟩
      rw [← hS] at hs2 ⊢
      have HS := Lib.hid hS
      clear hS hs1 hcell
      go_loopg [7] (S.size) (fun g i wr => ∃ k : Nat, i = .int .i64 k ∧ k ≤ S.size ∧ (∀ q, q < k → S.data.toList.getD q 0 ≠ 255) ∧ S.size - k ≤ g ∧ w1 = wr)
      case atStart => exact ⟨0, rfl, Nat.zero_le _, fun q hq => absurd hq (Nat.not_lt_zero _), Nat.le_refl _, rfl⟩
      case round =>
        obtain ⟨k, rfl, hk, hnk, hg2, rfl⟩ := hrel
        have HNK := Lib.hid hnk
        clear hnk
        by_cases hlt2 : k < S.size
        · have hlt2' : (k : Int) < S.size := by omega
          obtain ⟨c, hc⟩ : ∃ c : Nat, c = S[k].toNat := ⟨_, rfl⟩
          have hc' : S[k].toNat = c := hc.symm
          have HC := Lib.hid hc
          clear hc
          by_cases h255 : c = 255
          · have h255' : ((c : Int) == 255) = true := by rw [h255]; rfl
            go_wp2_with fail
            go_ret
            exact ⟨rfl, hB1⟩
          · have h255' : ((c : Int) == 255) = false := by simp; omega
            go_wp2_with fail
            obtain ⟨g2, rfl⟩ : ∃ g2, gk = g2 + 1 := ⟨gk - 1, by omega⟩
            go_roundg g2
            case measure => omega
            case rel =>
              refine ⟨k + 1, by go_num, by omega, fun q hq => ?_, by omega, rfl⟩
              rcases Nat.lt_or_ge q k with h9 | h9
              · exact HNK.out q h9
              · obtain rfl : q = k := by omega
                rw [List.getD_eq_getElem?_getD, List.getElem?_eq_getElem (by simpa using hlt2)]
                intro he
                have he2 : S[q] = 255 := he
                have := HC.out
                rw [he2] at this
                exact h255 this
        · have hlt2' : ¬ (k : Int) < S.size := by omega
          go_wp2_with fail
          go_roundg g
          case measure => omega
          case rel =>
            refine ⟨j + 1, by go_num, by omega, fun q hq b hb => ?_, by omega, rfl⟩
            rcases Nat.lt_or_ge q j with h9 | h9
            · exact HNO.out q h9 b hb
            · obtain rfl : q = j := by omega
              rw [← HS.out] at hb
              obtain ⟨t, ht, rfl⟩ := List.getElem_of_mem hb
              have := HNK.out t (by have : S.data.toList.length = S.size := by simp
                                    omega)
              rw [List.getD_eq_getElem?_getD, List.getElem?_eq_getElem ht] at this
              exact this
    · have hlt' : ¬ (j : Int) < len' := by omega
      obtain rfl : j = len' := by omega
      have hris := rising_any w1 oa len cap z ((HH.out.1).kept (Below.mono hB1 (Nat.le_refl _))) (fun i hi => (HH.out.2.1 i hi).kept hB1) (by omega)
      go_upto_region 15 with ((go_at_call 30; (refine hris.mono ?_); rintro x w2 ⟨K, nx, ao, cp, ao2, cp2, rfl, st⟩))
      clear hris
      have hB2 : Below W.heap.size W w2 := hB1.trans (st.bel.mono hB1.size)
      have hfew := st.ok.few
      have hJ : ∀ i, i < j → ∀ b ∈ (F i).data.toList, b ≠ 255 := HNO.out
      have HJ := Lib.hid hJ
      clear hJ
      have hgood : ∀ i, i < K.length → GoodF (kF K i) := fun i hi => (st.ok.at hi).2.1
      have hml := fun i => mix_len (F := F) (nj := j) hgood i
      have hcg := fun i => (catG_great HG.out (min i j) (by omega)).2
      have HM := Lib.hid (And.intro hgood (And.intro hml hcg))
      clear hgood hml hcg
      obtain ⟨M, hM⟩ : ∃ M, M = max K.length j := ⟨_, rfl⟩
      have hM1 : K.length ≤ M ∧ j ≤ M := by omega
      go_loopg [10, 11] (M) (fun g al i wr => ∃ (k : Nat) (X : ByteArray), al = .string X ∧ i = .int .i64 k ∧ k ≤ M ∧ X.data.toList = cat (mixT (kF K) (fun i => (F i).data.toList) K.length j) k ∧ M - k ≤ g ∧ w2 = wr)
      case atStart => exact ⟨0, ⟨#[]⟩, rfl, rfl, Nat.zero_le _, rfl, Nat.le_refl _, rfl⟩
      case round =>
        obtain ⟨k, X, rfl, rfl, hk, hX, hg, rfl⟩ := hrel
        have hXs : X.size ≤ 5500 := by
          have h1 := HM.out.2.1 k
          have h2 := HM.out.2.2 k
          have h3 := congrArg List.length hX
          have h4 : X.data.toList.length = X.size := by simp
          omega
        have HX := Lib.hid hX
        clear hX
        have hmix : cat (mixT (kF K) (fun i => (F i).data.toList) K.length j) (k + 1) = cat (mixT (kF K) (fun i => (F i).data.toList) K.length j) k ++ ((if k < j then (F k).data.toList else []) ++ (if k < K.length then frT (kF K k) else [])) := rfl
        have HMX := Lib.hid hmix
        clear hmix
        by_cases hMk : k < M
        · have hXm : X.size + 8000 ≤ maxLen := by unfold maxLen; omega
          by_cases hlj : k < j <;> by_cases hlk : k < K.length
          · have q1 : (k : Int) < j := by omega
            have q2 : (k : Int) < K.length := by omega
            have hXs2 : (⟨(frT (kF K k)).toArray⟩ : ByteArray).size ≤ 180 := by
              have h1 := frT_len2 (HM.out.1 k (by omega))
              show (List.toArray _).size ≤ 180
              simp only [List.size_toArray]
              omega
            obtain ⟨gt, rfl, t1, t2, tcell⟩ := txt_cell st.tx rfl (show k < K.length by omega)
            obtain ⟨TX, hTX⟩ : ∃ TX, TX = (⟨(frT (kF K k)).toArray⟩ : ByteArray) := ⟨_, rfl⟩
            rw [← hTX] at hXs2 tcell
            have HTX := Lib.hid hTX
            clear hTX
            obtain ⟨bl, off, rfl, hbl, hcell⟩ := HH.out.2.2.1.2.2 k hlj
            have hcell : w2.cell? ⟨bl, off + k, none⟩ = some (.string (F k)) := (hB2.cell hbl).trans hcell
            have hs2 : (F k).size ≤ 4000 := by
              have hs1 := (catG_great HG.out (k + 1) (by omega)).2
              rw [catG, ByteArray.size_append] at hs1; omega
            obtain ⟨FS, hFS⟩ : ∃ FS, FS = F k := ⟨_, rfl⟩
            rw [← hFS] at hs2 hcell
            have HFS := Lib.hid hFS
            clear hFS
            go_wp2_with fail
            obtain ⟨g, rfl⟩ : ∃ g, gk = g + 1 := ⟨gk - 1, by omega⟩
            go_roundg g
            case measure => omega
            case rel =>
              refine ⟨k + 1, X ++ FS ++ TX, rfl, by go_num, by omega, ?_, by omega, rfl⟩
              rw [HMX.out, ← HX.out, if_pos hlj, if_pos hlk]
              rw [← HFS.out]
              simp [HTX.out]
          · have q1 : (k : Int) < j := by omega
            have q2 : ¬ (k : Int) < K.length := by omega
            obtain ⟨bl, off, rfl, hbl, hcell⟩ := HH.out.2.2.1.2.2 k hlj
            have hcell : w2.cell? ⟨bl, off + k, none⟩ = some (.string (F k)) := (hB2.cell hbl).trans hcell
            have hs2 : (F k).size ≤ 4000 := by
              have hs1 := (catG_great HG.out (k + 1) (by omega)).2
              rw [catG, ByteArray.size_append] at hs1; omega
            obtain ⟨FS, hFS⟩ : ∃ FS, FS = F k := ⟨_, rfl⟩
            rw [← hFS] at hs2 hcell
            have HFS := Lib.hid hFS
            clear hFS
            go_wp2_with fail
            obtain ⟨g, rfl⟩ : ∃ g, gk = g + 1 := ⟨gk - 1, by omega⟩
            go_roundg g
            case measure => omega
            case rel =>
              refine ⟨k + 1, X ++ FS, rfl, by go_num, by omega, ?_, by omega, rfl⟩
              rw [HMX.out, ← HX.out, if_pos hlj, if_neg hlk]
              rw [← HFS.out]
              simp
          · have q1 : ¬ (k : Int) < j := by omega
            have q2 : (k : Int) < K.length := by omega
            have hXs2 : (⟨(frT (kF K k)).toArray⟩ : ByteArray).size ≤ 180 := by
              have h1 := frT_len2 (HM.out.1 k (by omega))
              show (List.toArray _).size ≤ 180
              simp only [List.size_toArray]
              omega
            obtain ⟨gt, rfl, t1, t2, tcell⟩ := txt_cell st.tx rfl (show k < K.length by omega)
            obtain ⟨TX, hTX⟩ : ∃ TX, TX = (⟨(frT (kF K k)).toArray⟩ : ByteArray) := ⟨_, rfl⟩
            rw [← hTX] at hXs2 tcell
            have HTX := Lib.hid hTX
            clear hTX
            go_wp2_with fail
            obtain ⟨g, rfl⟩ : ∃ g, gk = g + 1 := ⟨gk - 1, by omega⟩
            go_roundg g
            case measure => omega
            case rel =>
              refine ⟨k + 1, X ++ TX, rfl, by go_num, by omega, ?_, by omega, rfl⟩
              rw [HMX.out, ← HX.out, if_neg hlj, if_pos hlk]
              simp [HTX.out]
          · exfalso; omega
        · obtain rfl : k = M := by omega
          have hlt1 : ¬ (k : Int) < K.length := by omega
          have hlt2 : ¬ (k : Int) < j := by omega
          have hM3 := hM1
          have HM1 := Lib.hid hM3
          clear hM3 hM
          have hXs9 : X.size ≤ 5500 := hXs
          have hmx := HX.out
          clear HX
          go_wp2_with fail
          clear hlt1 hlt2 hM1 hfew HMX hg hk
          refine (make_any w2).mono ?_
          rintro x w3 ⟨rfl, hT, hk3⟩
          have htl : w2.heap.size < w3.heap.size := by obtain ⟨C, h1, _⟩ := hT; exact blk_lt h1
          go_wp2_with fail
          refine (hnew_any w3 w2.heap.size).mono ?_
          rintro x w4 ⟨rfl, hH1, hk⟩
          have hB4 := hk3.trans (hk.mono hk3.size)
          have hT4 := hT.kept hk
          have st0 : OnSt w2 w2.heap.size w3.heap.size ⟨#[]⟩ hs0 false (.slice none 0 0) [] w4 :=
            { bel := hB4, acc := { fed := Fed.new hH1, it := ItIn.nil _ _, map := rfl, few := hs0_ok, lob := by omega }, tab := hT4, lo := ⟨Nat.le_refl _, htl⟩, bs := blk_lt hH1 }
          clear hk hk3 hT hB4 hT4 hH1 htl
          have hlo0 := st0.lo
          have hfd : Calls Try.prog 21 #[.pointer (some ⟨w3.heap.size, 0, none⟩), .string X] w4 (FedPost w4 w3.heap.size w2.heap.size X hs0 (gO X) false) := by
            have h9 := feed_abs st0.acc.fed X st0.tab (by omega) (by show 0 + X.size ≤ _; omega)
            rw [nil_app] at h9
            exact h9
          have hfew9 := (gO_few X).1
          go_wp2_with fail
          refine hfd.mono ?_
          intro x w5 hx5
          obtain ⟨ao4, cap4, m4, rfl, h4⟩ := fd6_of hx5 hfew9
          clear hx5 hfd hfew9
          have st4 := st0.first rfl h4
          have hlen4 : m4.length ≤ 2 * 5500 := (st4.acc.few_len2 hXs9).1
          clear st0 h4
          have hbs := st4.bs
          have hfd := close_abs st4.acc.fed st4.tab (by omega) (by omega)
          rw [gC_of] at hfd
          have hfew9 := (gC_few X).1
          go_upto_region 24 with (first | (go_at_call 22; (refine hfd.mono ?_); intro x w5 hx5; obtain ⟨ao5, cap5, m5, rfl, h5⟩ := fd6_of hx5 hfew9; clear hx5; have hi5 := (st4.acc.it.only h5.only fun k hk => by rw [hk]; omega).own; have hsr5 := src_own h5.inn.own (itCells_length _); have hone5 := itCells_one h5.inn.evs; have hb5 : w3.heap.size + 1 ≤ w5.heap.size := Nat.le_trans st4.bs h5.only.size; have hl5 := h5.len st4.acc hXs9) | (at_builtin; (refine list_append rfl (.tmp 89) (.tmp 91) 35 rfl (w3.heap.size + 1) hb5 44 i0 _ 4 40 ul_items hi0 hz0 hz1 hz2 rfl (by decide) (.slice ao4 m4.length cap4) m4.length (itCells m4) rfl hi5 _ m5.length (itCells m5) rfl (itCells_length _) hsr5 hone5 (by unfold maxLen; omega) (by omega) ?_); intro ao7 cp7 w7 hown5 hg5 hat5; have st7 := st4.more h5 hown5 hg5; clear hat5 hg5 hown5 h5 hi5 hsr5 hone5 hb5 hl5))
          clear st4 hfd hfew9 hbs
          have st9 : OnSt w2 w2.heap.size w3.heap.size X (gC X) true (.slice ao7 (m4 ++ m5).length cp7) (m4 ++ m5) w7 := by rw [List.length_append]; exact st7
          have hB7 := st9.bel
          have hto := rtold_any w7 w1.heap.size ao cp K (own_below st.fr hB7) (fun i hi => (st.ok.at hi).1.kept (st.bel.trans (hB7.mono st.bel.size))) st.ok.few (fun i hi => ⟨by rw [(toldI_eq K i).2]; exact st.ok.next hi, by have := (st.ok.at hi).2.2; omega⟩)
          have hpl := hunt_junk (F := kF K) (J := fun i => (F i).data.toList) HM.out.1 (fun i hi => st.ok.rise i hi) HJ.out HM1.out.1 HM1.out.2 hmx
          rw [toldN_congr (K' := fun _ => true) K.length fun i hi => by simp [hi], ← (toldI_eq K K.length).1] at hpl
          have he : (m4 ++ m5).map Itm.p = (toldI K K.length).1.map Itm.p := st9.acc.map.trans hpl
          have hfl := st9.acc.few_len2 hXs9
          have HE := Lib.hid (And.intro he hfl)
          clear he hfl hpl
          go_wp2_with fail
          refine hto.mono ?_
          rintro x w8 ⟨ao8, cp8, rfl, hsl8, hB8⟩
          clear hto
          have hsm := rsame9b_any (st9.acc.it.sl.below hB8) hsl8 HE.out.1 (by have := HE.out.2.1; omega) (fun x hx => by have := HE.out.2.2 x hx; omega)
          rw [List.length_append] at hsm
          go_wp2_with fail
          refine hsm.mono ?_
          rintro x w9 ⟨rfl, n9, rfl⟩
          clear hsm
          go_wp2_with fail
          go_ret
          exact ⟨rfl, ((hB2.trans (hB7.mono hB2.size)).trans (hB8.mono (Nat.le_trans hB2.size hB7.size))).trans ((kept_drewN _ n9).mono (by have := hB2.size; have := hB7.size; have := hB8.size; omega))⟩
end Go.Proofs.Ythdenjokedmcfaa
