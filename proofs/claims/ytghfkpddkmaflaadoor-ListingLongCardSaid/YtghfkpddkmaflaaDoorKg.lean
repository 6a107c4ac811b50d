/- Walks of layer 11's laws ListingLines, ListingReads. Conditions: the library's variables' data. -/
import Derived.Test.YtghfkpddkmaflaaDoorKf
import Derived.Test.YtghfkpddkmaflaaDoorJo
namespace Go.Proofs.YtghfkpddkmaflaaDoor
open Go Go.RowKit
set_option linter.unusedVariables false
set_option linter.unusedSimpArgs false
set_option maxRecDepth 20000
set_option maxHeartbeats 4000000 in
theorem listingLines_law (i : Ins) (line : ByteArray) (W : World) (g : Gl W) (hi : i.Wf) (_hl : line.size ≤ maxLen) : Calls Tryd.prog 3 #[i.val, .string line] W fun x W' => x = .returned (.bool true) ∧ Below W.heap.size W W' := by
  have hL := fun x gx => lline_any i hi x gx
  have hF := fun x => rform_any i hi x
  have hR := fun h x => rline_any i hi h x
  have HE := Lib.hid (show i.chk ≠ 0 → lnB i = ⟨#[]⟩ from fun h => by unfold lnB; rw [if_neg h])
  have HO := Lib.hid (show i.chk = 0 → lnB i = txB (lin i) from fun h => by unfold lnB; rw [if_pos h]; rfl)
  obtain ⟨ck, hck⟩ : ∃ c, c = i.chk := ⟨_, rfl⟩
  rw [← hck] at hL hF hR HE HO
  clear hck hi
  obtain ⟨D, hD⟩ : ∃ D, D = lnB i := ⟨_, rfl⟩
  rw [← hD] at hL HE HO
  clear hD
  obtain ⟨D2, hD2⟩ : ∃ D, D = txB (lin i) := ⟨_, rfl⟩
  rw [← hD2] at hR HO
  clear hD2
  obtain ⟨o, a, b, c, d, k⟩ := i
  simp only [Ins.val] at hL hF hR ⊢
  have hI : (W.alloc (.cells #[.int .i64 o, .int .i64 a, .int .i64 b, .int .i64 c, .int .i64 d, .int .u32 k] 24)).heap[W.heap.size]? = some (.cells (Ins.cells ⟨o, a, b, c, d, k⟩).toArray 24 (0, 0)) := heap_alloc_new W _
  have hB1 := (Below.refl W.heap.size W).alloc (Nat.le_refl _) (.cells #[.int .i64 o, .int .i64 a, .int .i64 b, .int .i64 c, .int .i64 d, .int .u32 k] 24)
  go_enter Tryd.func3, Tryd.ntmps3
  go_upto_region 1 with fail
  generalize W.alloc (.cells #[.int .i64 o, .int .i64 a, .int .i64 b, .int .i64 c, .int .i64 d, .int .u32 k] 24) = w1 at hI hB1 ⊢
  obtain ⟨q, hq⟩ : ∃ q, q = W.heap.size := ⟨_, rfl⟩
  rw [← hq] at hI ⊢
  clear hq
  have g1 : Gl w1 := g.on hB1
  go_wp2_with fail
  refine (awake11_any _ g1).mono ?_
  rintro e w2 ⟨rfl, hk⟩
  have hI2 := (hk.block _ (blk_lt hI)).trans hI
  have hB2 := bel_next hB1 hk
  have g2 := g.on hB2
  clear hk hB1 g1 hI
  by_cases hlen : 200 < line.size
  · have hlI : (200 : Int) < line.size := by omega
    clear hlen
    go_wp2_with fail
    refine (awake11_any _ g2).mono ?_
    rintro e w3 ⟨rfl, hk⟩
    go_wp2_with fail
    go_ret
    exact ⟨rfl, bel_next hB2 hk⟩
  · have hlI : ¬ (200 : Int) < line.size := by omega
    obtain ⟨c0, c1, c2, c3, c4, c5⟩ := ins_cells hI2
    simp only at c0 c1 c2 c3 c4 c5
    go_wp2_with fail
    refine (hL _ g2).mono ?_
    rintro e w3 ⟨rfl, hk⟩
    have hI3 := (hk.block _ (blk_lt hI2)).trans hI2
    have hB3 := bel_next hB2 hk
    clear hk hB2 g2 hI2 c0 c1 c2 c3 c4 c5 hL
    obtain ⟨c0, c1, c2, c3, c4, c5⟩ := ins_cells hI3
    simp only at c0 c1 c2 c3 c4 c5
    go_wp2_with fail
    refine (hF _).mono ?_
    rintro e w4 ⟨rfl, hk⟩
    have hI4 := (hk.block _ (blk_lt hI3)).trans hI3
    have hB4 := bel_next hB3 hk
    clear hk hB3 hI3 c0 c1 c2 c3 c4 c5 hF
    obtain ⟨c0, c1, c2, c3, c4, c5⟩ := ins_cells hI4
    simp only at c0 c1 c2 c3 c4 c5
    go_upto_region 5 with fail
    go_cut [47] (fun u wx => u = .bool false ∧ Below W.heap.size W wx)
    case first =>
      by_cases h0 : ck = 0
      · have hR := hR h0
        have d1 : (ck != 0) = false := by rw [h0]; rfl
        have d2 : (ck == 0) = true := by rw [h0]; rfl
        have HDD := HO.out h0
        have n1 : (D.toList == D2.toList) = true := ba_eq HDD
        have n2 : (D.toList != D2.toList) = false := by rw [bne, n1]; rfl
        clear h0 HDD
        go_wp2_with fail
        refine (hR _).mono ?_
        rintro e w5 ⟨rfl, hk⟩
        have hB5 := bel_next hB4 hk
        go_wp2_with fail
        go_meet
        exact ⟨rfl, hB5⟩
      · have d1 : (ck != 0) = true := by rw [bne_iff_ne]; exact h0
        have d2 : (ck == 0) = false := beqF h0
        have HDD := HE.out h0
        have n0 : D.toList = [] := by rw [HDD, ByteArray.toList_eq]
        have n1 : D.toList.isEmpty = true := by rw [n0]; rfl
        have n2 : (D.toList == []) = true := by rw [n0]; rfl
        have n3 : (D.toList != []) = false := by rw [n0]; rfl
        have n4 : (D.toList == (⟨#[]⟩ : ByteArray).toList) = true := ba_eq HDD
        have n5 : (D.toList != (⟨#[]⟩ : ByteArray).toList) = false := by rw [bne, n4]; rfl
        clear h0 HDD n0
        go_wp2_with fail
        go_meet
        exact ⟨rfl, hB4⟩
    case rest =>
      obtain ⟨rfl, hB5⟩ := hcut
      clear hB4 hI4 c0 c1 c2 c3 c4 c5 HE HO hR
      have g5 := g.on hB5
      have hP := fun x gx => lparse_any line (by omega) x gx
      have hQ := fun x => rparse_any line (by omega) x
      unfold LParsePost at hP hQ
      generalize (ins line.data.toList).2 = c2 at hP hQ
      generalize (ins line.data.toList).1 = I at hP hQ
      obtain ⟨o', a', b', c', d', k'⟩ := I
      simp only [Ins.val] at hP hQ
      go_wp2_with fail
      refine (hP _ g5).mono ?_
      rintro e w6 ⟨rfl, hk⟩
      have hB6 := bel_next hB5 hk
      clear hk hB5 hP
      have hX : (w6.alloc (.cells #[.int .i64 o', .int .i64 a', .int .i64 b', .int .i64 c', .int .i64 d', .int .u32 k'] 24)).heap[w6.heap.size]? = some (.cells (Ins.cells ⟨o', a', b', c', d', k'⟩).toArray 24 (0, 0)) := heap_alloc_new w6 _
      have hB7 := hB6.alloc hB6.size (.cells #[.int .i64 o', .int .i64 a', .int .i64 b', .int .i64 c', .int .i64 d', .int .u32 k'] 24)
      go_upto_region 8 with fail
      generalize w6.alloc (.cells #[.int .i64 o', .int .i64 a', .int .i64 b', .int .i64 c', .int .i64 d', .int .u32 k'] 24) = w7 at hX hB7 ⊢
      generalize w6.heap.size = x7 at hX ⊢
      clear hB6
      go_wp2_with fail
      refine (hQ _).mono ?_
      rintro e w8 ⟨rfl, hk⟩
      have hB8 := bel_next hB7 hk
      have hX8 := (hk.block _ (blk_lt hX)).trans hX
      clear hk hB7 hX hQ
      have hY : (w8.alloc (.cells #[.int .i64 o', .int .i64 a', .int .i64 b', .int .i64 c', .int .i64 d', .int .u32 k'] 24)).heap[w8.heap.size]? = some (.cells (Ins.cells ⟨o', a', b', c', d', k'⟩).toArray 24 (0, 0)) := heap_alloc_new w8 _
      have hB9 := hB8.alloc hB8.size (.cells #[.int .i64 o', .int .i64 a', .int .i64 b', .int .i64 c', .int .i64 d', .int .u32 k'] 24)
      have hk9 := (Below.refl w8.heap.size w8).alloc (Nat.le_refl _) (.cells #[.int .i64 o', .int .i64 a', .int .i64 b', .int .i64 c', .int .i64 d', .int .u32 k'] 24)
      have hX9 := (hk9.block _ (blk_lt hX8)).trans hX8
      go_upto_region 9 with fail
      generalize w8.alloc (.cells #[.int .i64 o', .int .i64 a', .int .i64 b', .int .i64 c', .int .i64 d', .int .u32 k'] 24) = w9 at hX9 hY hB9 ⊢
      generalize w8.heap.size = x9 at hY ⊢
      clear hB8 hX8 hk9
      obtain ⟨c0, c1, c2, c3, c4, c5⟩ := ins_cells hX9
      obtain ⟨e0, e1, e2, e3, e4, e5⟩ := ins_cells hY
      simp only at c0 c1 c2 c3 c4 c5 e0 e1 e2 e3 e4 e5
      go_wp2_with fail
      go_ret
      exact ⟨rfl, hB9⟩
set_option maxHeartbeats 4000000 in
theorem listingReads_law (text : ByteArray) (W : World) (g : Gl W) (_hl : text.size ≤ maxLen) : Calls Tryd.prog 4 #[.string text] W fun x W' => x = .returned (.bool true) ∧ Below W.heap.size W W' := by
  go_enter Tryd.func4, Tryd.ntmps4
  go_wp2_with fail
  refine (awake11_any _ g).mono ?_
  rintro e w2 ⟨rfl, hB2⟩
  have g2 := g.on hB2
  by_cases hlen : 4000 < text.size
  · have hlI : (4000 : Int) < text.size := by omega
    clear hlen
    go_wp2_with fail
    refine (awake11_any _ g2).mono ?_
    rintro e w3 ⟨rfl, hk⟩
    go_wp2_with fail
    go_ret
    exact ⟨rfl, bel_next hB2 hk⟩
  · have hlI : ¬ (4000 : Int) < text.size := by omega
    have hP := lread_any text (by omega) w2 g2
    have hQ := fun x => rread_any text (by omega) x
    have hm : (rdT text.data.toList).1.length ≤ 256 := by
      by_cases h : (rdT text.data.toList).2.2 = 0
      · have := rdP_back _ _ _ h
        have h2 := this.2.2.1
        have h3 := congrArg List.length this.2.1
        rw [List.length_map] at h3
        show (rdP _ _ 0).1.length ≤ 256
        omega
      · rw [show (rdT text.data.toList).1 = [] from rdP_err _ _ _ h]
        decide
    generalize rdT text.data.toList = R at hP hQ hm
    obtain ⟨l, at', e⟩ := R
    simp only at hm
    go_wp2_with fail
    refine hP.mono ?_
    rintro x w3 ⟨ao, cap, rfl, hown, hk3⟩
    have hB3 := bel_next hB2 hk3
    simp only at hown ⊢
    clear hP hB2 g2 hk3
    go_wp2_with fail
    refine (hQ _).mono ?_
    rintro x w4 ⟨ao', cap', rfl, hown', hk4⟩
    have hB4 := bel_next hB3 hk4
    have hown4 := own_below hown hk4
    simp only at hown' ⊢
    clear hQ hB3 hk4 hown
    have hs := rsame_eq w4 ao ao' l.length cap cap' (fun i => l.getD i default) (slArgN_own hown4) (slArgN_own hown') (by omega)
    generalize l.length = n at *
    go_wp2_with fail
    refine hs.mono ?_
    rintro x w5 ⟨rfl, m, rfl⟩
    go_wp2_with fail
    go_ret
    exact ⟨rfl, below_drewN hB4 m⟩
end Go.Proofs.YtghfkpddkmaflaaDoor
