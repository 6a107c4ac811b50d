/- Walk of layer 5's law EventTexts. Conditions: the library's variables' data. -/
import Derived.Test.YtokjkfbbejalhaaDoorTy
import Derived.Test.YtokjkfbbejalhaaDoorTu
import Derived.Test.YtokjkfbbejalhaaDoorTv
namespace Go.Proofs.YtokjkfbbejalhaaDoor
open Go Go.RowKit
set_option linter.unusedVariables false
set_option linter.unusedSimpArgs false
set_option maxRecDepth 20000
set_option maxHeartbeats 4000000 in
theorem eventTexts_law (e : Ev) (s : ByteArray) (W : World) (g : Gl W) (he : e.Wf) (hs : s.size ≤ maxLen) : Calls Tryd.prog 5 #[e.val, .string s] W fun x W' => x = .returned (.bool true) ∧ Below W.heap.size W W' := by
  unfold maxLen at hs
  have htx := fun x gx => text_any e he x gx
  have hrc := fun x => rcheck_any e x
  have hrt := fun h x => rtext_any e he h x
  obtain ⟨k, cy, ct, a, b, v⟩ := e
  simp only [Ev.val] at htx hrc hrt ⊢
  unfold TextPost at htx
  obtain ⟨ck, hck⟩ : ∃ ck, ck = (Ev.mk k cy ct a b v).chk := ⟨_, rfl⟩
  rw [← hck] at htx hrc hrt
  obtain ⟨T, hT⟩ : ∃ T : ByteArray, T = ⟨(txt ⟨k, cy, ct, a, b, v⟩).toArray⟩ := ⟨_, rfl⟩
  rw [← hT] at hrt
  obtain ⟨T2, hT2⟩ : ∃ T2 : ByteArray, T2 = ⟨(if ck = 0 then txt ⟨k, cy, ct, a, b, v⟩ else []).toArray⟩ := ⟨_, rfl⟩
  rw [← hT2] at htx
  have HT := Lib.hid (show (ck = 0 → T2 = T) ∧ (ck ≠ 0 → T2 = ⟨#[]⟩) from ⟨fun h => by rw [hT2, hT, if_pos h], fun h => by rw [hT2, if_neg h]⟩)
  have HRT := Lib.hid hrt
  have ba : a < 4294967296 := he.a
  have bb : b < 4294967296 := he.b
  have bv : v < 4294967296 := he.v
  clear hck hT hT2 he hrt
  have hO : (W.alloc (.cells #[.int .i64 k, .int .u64 cy, .int .u64 ct, .int .u32 a, .int .u32 b, .int .u32 v] 25)).heap[W.heap.size]? = some (.cells (Ev.cells ⟨k, cy, ct, a, b, v⟩).toArray 25 (0, 0)) := heap_alloc_new W _
  have hB1 := (Below.refl W.heap.size W).alloc (Nat.le_refl _) (.cells #[.int .i64 k, .int .u64 cy, .int .u64 ct, .int .u32 a, .int .u32 b, .int .u32 v] 25)
  go_enter Tryd.func5, Tryd.ntmps5
  go_upto_region 1 with fail
  generalize W.alloc (.cells #[.int .i64 k, .int .u64 cy, .int .u64 ct, .int .u32 a, .int .u32 b, .int .u32 v] 25) = w1 at hO hB1 ⊢
  obtain ⟨o, ho⟩ : ∃ o, o = W.heap.size := ⟨_, rfl⟩
  rw [← ho] at hO ⊢
  clear ho
  go_wp2_with fail
  refine (awake5_any _ (g.on hB1)).mono ?_
  rintro x w2 ⟨rfl, hk2⟩
  have hB2 := bel_next hB1 hk2
  have hO2 := (hk2.block _ (blk_lt hO)).trans hO
  clear hB1 hO hk2
  by_cases h300 : 300 < s.size
  · have h300I : (300 : Int) < s.size := by omega
    go_wp2_with fail
    refine (awake5_any _ (g.on hB2)).mono ?_
    rintro x w3 ⟨rfl, hk3⟩
    have hB3 := bel_next hB2 hk3
    go_wp2_with fail
    go_ret
    exact ⟨rfl, hB3⟩
  · have h300I : ¬ (300 : Int) < s.size := by omega
    obtain ⟨c0, c1, c2, c3, c4, c5⟩ := ev_cells hO2
    simp only at c0 c1 c2 c3 c4 c5
    go_wp2_with fail
    refine (htx _ (g.on hB2)).mono ?_
    rintro x w3 ⟨rfl, hk3⟩
    have hB3 := bel_next hB2 hk3
    have hO3 := (hk3.block _ (blk_lt hO2)).trans hO2
    clear c0 c1 c2 c3 c4 c5 hB2 hO2 hk3 htx
    obtain ⟨c0, c1, c2, c3, c4, c5⟩ := ev_cells hO3
    simp only at c0 c1 c2 c3 c4 c5
    go_wp2_with fail
    refine (hrc _).mono ?_
    rintro x w4 ⟨rfl, hk4⟩
    have hB4 := bel_next hB3 hk4
    have hO4 := (hk4.block _ (blk_lt hO3)).trans hO3
    clear c0 c1 c2 c3 c4 c5 hB3 hO3 hk4 hrc
    obtain ⟨c0, c1, c2, c3, c4, c5⟩ := ev_cells hO4
    simp only at c0 c1 c2 c3 c4 c5
    go_upto_region 5 with fail
    go_cut [47] (fun u wx => Below W.heap.size W wx ∧ u = .bool false)
    case first =>
      by_cases h0 : ck = 0
      · have hrt := HRT.out h0
        obtain rfl : T2 = T := HT.out.1 h0
        subst h0
        go_wp2_with fail
        refine (hrt _).mono ?_
        rintro x w5 ⟨rfl, hk5⟩
        have hB5 := bel_next hB4 hk5
        go_wp2_with fail
        go_meet
        exact ⟨hB5, rfl⟩
      · obtain rfl : T2 = ⟨#[]⟩ := HT.out.2 h0
        have d0 : (ck != 0) = true := by rw [bne_iff_ne]; exact h0
        have d1 : (ck == 0) = false := by rw [beq_eq_false_iff_ne]; exact h0
        clear h0
        go_wp2_with fail
        go_meet
        exact ⟨hB4, rfl⟩
    case rest =>
      obtain ⟨hB5, rfl⟩ := hcut
      have hp := fun x gx => parse_any s (by omega) x gx
      have hq := fun x => rparse_any s (by omega) x
      unfold ParsePost at hp hq
      generalize prs s.data.toList = pr at hp hq
      obtain ⟨⟨k', cy', ct', a', b', v'⟩, m⟩ := pr
      simp only [Ev.val] at hp hq
      clear c0 c1 c2 c3 c4 c5 hO4 hB4 HRT HT
      go_wp2_with fail
      refine (hp _ (g.on hB5)).mono ?_
      rintro x w6 ⟨rfl, hk6⟩
      have hB6 := bel_next hB5 hk6
      have hE := heap_alloc_new w6 (.cells #[.int .i64 k', .int .u64 cy', .int .u64 ct', .int .u32 a', .int .u32 b', .int .u32 v'] 25)
      have hB7 := hB6.alloc hB6.size (.cells #[.int .i64 k', .int .u64 cy', .int .u64 ct', .int .u32 a', .int .u32 b', .int .u32 v'] 25)
      clear hk6 hB5 hB6 hp
      go_upto_region 8 with fail
      generalize w6.alloc (.cells #[.int .i64 k', .int .u64 cy', .int .u64 ct', .int .u32 a', .int .u32 b', .int .u32 v'] 25) = w7 at hE hB7 ⊢
      generalize w6.heap.size = x7 at hE ⊢
      go_wp2_with fail
      refine (hq _).mono ?_
      rintro x w8 ⟨rfl, hk8⟩
      have hB8 := bel_next hB7 hk8
      have hE8 := (hk8.block _ (blk_lt hE)).trans hE
      have hF := heap_alloc_new w8 (.cells #[.int .i64 k', .int .u64 cy', .int .u64 ct', .int .u32 a', .int .u32 b', .int .u32 v'] 25)
      have hB9 := hB8.alloc hB8.size (.cells #[.int .i64 k', .int .u64 cy', .int .u64 ct', .int .u32 a', .int .u32 b', .int .u32 v'] 25)
      have hE9 := blk_alloc hE8 (.cells #[.int .i64 k', .int .u64 cy', .int .u64 ct', .int .u32 a', .int .u32 b', .int .u32 v'] 25)
      clear hk8 hB7 hB8 hE hE8 hq
      go_upto_region 9 with fail
      generalize w8.alloc (.cells #[.int .i64 k', .int .u64 cy', .int .u64 ct', .int .u32 a', .int .u32 b', .int .u32 v'] 25) = w9 at hF hB9 hE9 ⊢
      generalize w8.heap.size = x9 at hF ⊢
      obtain ⟨c0, c1, c2, c3, c4, c5⟩ := ev_cells (e := ⟨k', cy', ct', a', b', v'⟩) hE9
      obtain ⟨d0, d1, d2, d3, d4, d5⟩ := ev_cells (e := ⟨k', cy', ct', a', b', v'⟩) hF
      simp only at c0 c1 c2 c3 c4 c5 d0 d1 d2 d3 d4 d5
      go_wp2_with fail
      go_ret
      exact ⟨rfl, hB9⟩
end Go.Proofs.YtokjkfbbejalhaaDoor
