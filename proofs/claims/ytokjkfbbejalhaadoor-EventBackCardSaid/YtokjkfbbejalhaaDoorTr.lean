/- Walk of layer 5's law EventBack. Conditions: the library's variables' data. -/
import Derived.Test.YtokjkfbbejalhaaDoorTy
import Derived.Test.YtokjkfbbejalhaaDoorTu
import Derived.Test.YtokjkfbbejalhaaDoorTv
namespace Go.Proofs.YtokjkfbbejalhaaDoor
open Go Go.RowKit
set_option linter.unusedVariables false
set_option linter.unusedSimpArgs false
set_option maxRecDepth 20000
theorem prs_zero {l : List UInt8} {x : Ev} {m : Int} (h : prs l = (x, m)) (hm : ¬ m = 0) : x = default := by
  unfold prs at h
  split at h
  · cases h; rfl
  · unfold fin at h
    split at h
    · cases h; exact absurd rfl hm
    · cases h; rfl
theorem dec_le (u : Nat) (h : u < 18446744073709551616) : (Lib.decDigits u).length ≤ 20 := by
  have := DB_size u h
  have e : (DB u).size = (Lib.decDigits u).length := by show (Lib.decDigits u).toArray.size = _; simp
  omega
theorem ap_le (p : Bool) (u : Nat) (h : u < 4294967296) : (ap p u).length ≤ 21 := by
  have := dec_le u (by omega)
  unfold ap
  split
  · rw [List.length_cons]; omega
  · exact Nat.zero_le _
theorem txt_le {e : Ev} (w : e.Wf) (h : e.chk = 0) : (txt e).length ≤ 1000 := by
  obtain ⟨h1, _⟩ := chk_ok h
  have h1 : 1 ≤ e.k ∧ e.k ≤ 24 := by simpa [isK] using h1
  have z := nm_size e.k.toNat (by omega)
  rw [show ((e.k.toNat : Nat) : Int) = e.k by omega] at z
  have z2 : (nm e.k).data.toList.length ≤ 10 := by simpa using z
  have a1 := dec_le e.ct w.ct
  have a2 := dec_le e.cy w.cy
  have a3 := ap_le (hasA e.k) e.a w.a
  have a4 := ap_le (hasB e.k) e.b w.b
  have a5 := ap_le (hasV e.k) e.v w.v
  unfold txt
  simp only [List.length_append, List.length_cons]
  omega
set_option maxHeartbeats 4000000 in
theorem eventBack_law (e : Ev) (s : ByteArray) (W : World) (g : Gl W) (he : e.Wf) (hs : s.size ≤ maxLen) : Calls Tryd.prog 6 #[e.val, .string s] W fun x W' => x = .returned (.bool true) ∧ Below W.heap.size W W' := by
  unfold maxLen at hs
  have htx := fun x gx => text_any e he x gx
  unfold TextPost at htx
  have HPT := Lib.hid (fun (h : e.chk = 0) (x : World) (gx : Gl x) => (parse_any ⟨(txt e).toArray⟩ (by show (txt e).toArray.size ≤ 1000; rw [List.size_toArray]; exact txt_le he h) x gx).mono (R' := fun y w' => y = .returned (.tuple #[e.val, .int .i64 0]) ∧ Below x.heap.size x w') fun y w' q => ⟨q.1.trans (by rw [show (ByteArray.mk (txt e).toArray).data.toList = txt e from rfl, prs_txt he h]), q.2⟩)
  obtain ⟨k, cy, ct, a, b, v⟩ := e
  simp only [Ev.val] at htx HPT ⊢
  obtain ⟨ck, hck⟩ : ∃ ck, ck = (Ev.mk k cy ct a b v).chk := ⟨_, rfl⟩
  rw [← hck] at htx HPT
  obtain ⟨T, hT⟩ : ∃ T : ByteArray, T = ⟨(txt ⟨k, cy, ct, a, b, v⟩).toArray⟩ := ⟨_, rfl⟩
  rw [← hT] at HPT
  obtain ⟨T2, hT2⟩ : ∃ T2 : ByteArray, T2 = ⟨(if ck = 0 then txt ⟨k, cy, ct, a, b, v⟩ else []).toArray⟩ := ⟨_, rfl⟩
  rw [← hT2] at htx
  have HT := Lib.hid (show (ck = 0 → T2 = T) from fun h => by rw [hT2, hT, if_pos h])
  have ba : a < 4294967296 := he.a
  have bb : b < 4294967296 := he.b
  have bv : v < 4294967296 := he.v
  clear hck hT hT2 he
  have hO : (W.alloc (.cells #[.int .i64 k, .int .u64 cy, .int .u64 ct, .int .u32 a, .int .u32 b, .int .u32 v] 25)).heap[W.heap.size]? = some (.cells (Ev.cells ⟨k, cy, ct, a, b, v⟩).toArray 25 (0, 0)) := heap_alloc_new W _
  have hB1 := (Below.refl W.heap.size W).alloc (Nat.le_refl _) (.cells #[.int .i64 k, .int .u64 cy, .int .u64 ct, .int .u32 a, .int .u32 b, .int .u32 v] 25)
  go_enter Tryd.func6, Tryd.ntmps6
  go_upto_region 1 with fail
  generalize W.alloc (.cells #[.int .i64 k, .int .u64 cy, .int .u64 ct, .int .u32 a, .int .u32 b, .int .u32 v] 25) = w1 at hO hB1 ⊢
  obtain ⟨o, ho⟩ : ∃ o, o = W.heap.size := ⟨_, rfl⟩
  rw [← ho] at hO ⊢
  clear ho
  go_wp2_with fail
  refine (awake5_any _ (g.on hB1)).mono ?_
  rintro x w2 ⟨rfl, hk2⟩
  have hB2 := bel_next hB1 hk2
  have hO2 := (hk2.block _ (blk_lt hO)).trans hO
  clear hB1 hO hk2
  by_cases h300 : 300 < s.size
  · have h300I : (300 : Int) < s.size := by omega
    go_wp2_with fail
    refine (awake5_any _ (g.on hB2)).mono ?_
    rintro x w3 ⟨rfl, hk3⟩
    have hB3 := bel_next hB2 hk3
    go_wp2_with fail
    go_ret
    exact ⟨rfl, hB3⟩
  · have h300I : ¬ (300 : Int) < s.size := by omega
    obtain ⟨c0, c1, c2, c3, c4, c5⟩ := ev_cells hO2
    simp only at c0 c1 c2 c3 c4 c5
    go_wp2_with fail
    refine (htx _ (g.on hB2)).mono ?_
    rintro x w3 ⟨rfl, hk3⟩
    have hB3 := bel_next hB2 hk3
    have hO3 := (hk3.block _ (blk_lt hO2)).trans hO2
    clear c0 c1 c2 c3 c4 c5 hB2 hO2 hk3 htx
    have hp := fun x gx => parse_any s (by omega) x gx
    unfold ParsePost at hp
    obtain ⟨pr, hpr⟩ : ∃ pr, pr = prs s.data.toList := ⟨_, rfl⟩
    rw [← hpr] at hp
    obtain ⟨⟨k', cy', ct', a', b', v'⟩, m⟩ := pr
    simp only [Ev.val] at hp
    have HZ := Lib.hid (show ¬ m = 0 → (⟨k', cy', ct', a', b', v'⟩ : Ev) = default from fun h => prs_zero hpr.symm h)
    have HBK := Lib.hid (show m = 0 → (⟨k', cy', ct', a', b', v'⟩ : Ev).Wf ∧ (⟨k', cy', ct', a', b', v'⟩ : Ev).chk = 0 ∧ txt ⟨k', cy', ct', a', b', v'⟩ = s.data.toList from fun h => prs_back (by rw [← h]; exact hpr.symm))
    clear hpr
    by_cases h0 : ck = 0
    · have hpt := HPT.out h0
      obtain rfl : T2 = T := HT.out h0
      subst h0
      go_wp2_with fail
      refine (hpt _ (g.on hB3)).mono ?_
      rintro x w4 ⟨rfl, hk4⟩
      have hB4 := bel_next hB3 hk4
      have hO4 := (hk4.block _ (blk_lt hO3)).trans hO3
      have hE := heap_alloc_new w4 (.cells #[.int .i64 k, .int .u64 cy, .int .u64 ct, .int .u32 a, .int .u32 b, .int .u32 v] 25)
      have hB5 := hB4.alloc hB4.size (.cells #[.int .i64 k, .int .u64 cy, .int .u64 ct, .int .u32 a, .int .u32 b, .int .u32 v] 25)
      have hO5 := blk_alloc hO4 (.cells #[.int .i64 k, .int .u64 cy, .int .u64 ct, .int .u32 a, .int .u32 b, .int .u32 v] 25)
      clear hB3 hO3 hk4 hB4 hO4 hpt
      go_upto_region 6 with fail
      generalize w4.alloc (.cells #[.int .i64 k, .int .u64 cy, .int .u64 ct, .int .u32 a, .int .u32 b, .int .u32 v] 25) = w5 at hE hB5 hO5 ⊢
      generalize w4.heap.size = x5 at hE ⊢
      obtain ⟨c0, c1, c2, c3, c4, c5⟩ := ev_cells hO5
      obtain ⟨d0, d1, d2, d3, d4, d5⟩ := ev_cells (e := ⟨k, cy, ct, a, b, v⟩) hE
      simp only at c0 c1 c2 c3 c4 c5 d0 d1 d2 d3 d4 d5
      go_upto_region 8 with fail
      clear c0 c1 c2 c3 c4 c5 d0 d1 d2 d3 d4 d5 hE hO5
      by_cases hm : m = 0
      · subst hm
        obtain ⟨wf', hc', ht'⟩ := HBK.out rfl
        have b1 : k' = k' := rfl
        have ba' : a' < 4294967296 := wf'.a
        have bb' : b' < 4294967296 := wf'.b
        have bv' : v' < 4294967296 := wf'.v
        have htx2 : ∀ x, Gl x → Calls Tryd.prog 15 #[.agg #[.int .i64 k', .int .u64 cy', .int .u64 ct', .int .u32 a', .int .u32 b', .int .u32 v']] x fun y w' => y = .returned (.tuple #[.string s, .int .i64 0]) ∧ Below x.heap.size x w' := fun x gx => (text_any ⟨k', cy', ct', a', b', v'⟩ wf' x gx).mono fun y w' q => ⟨q.1.trans (by rw [hc', if_pos rfl, ht']), q.2⟩
        clear wf' hc' ht' b1
        go_wp2_with fail
        refine (hp _ (g.on hB5)).mono ?_
        rintro x w6 ⟨rfl, hk6⟩
        have hB6 := bel_next hB5 hk6
        have hE := heap_alloc_new w6 (.cells #[.int .i64 k', .int .u64 cy', .int .u64 ct', .int .u32 a', .int .u32 b', .int .u32 v'] 25)
        have hB7 := hB6.alloc hB6.size (.cells #[.int .i64 k', .int .u64 cy', .int .u64 ct', .int .u32 a', .int .u32 b', .int .u32 v'] 25)
        clear hk6 hB5 hB6 hp
        go_upto_region 9 with fail
        generalize w6.alloc (.cells #[.int .i64 k', .int .u64 cy', .int .u64 ct', .int .u32 a', .int .u32 b', .int .u32 v'] 25) = w7 at hE hB7 ⊢
        generalize w6.heap.size = x7 at hE ⊢
        obtain ⟨c0, c1, c2, c3, c4, c5⟩ := ev_cells (e := ⟨k', cy', ct', a', b', v'⟩) hE
        simp only at c0 c1 c2 c3 c4 c5
        go_wp2_with fail
        refine (htx2 _ (g.on hB7)).mono ?_
        rintro x w8 ⟨rfl, hk8⟩
        have hB8 := bel_next hB7 hk8
        go_wp2_with fail
        go_ret
        exact ⟨rfl, hB8⟩
      · obtain ⟨rfl, rfl, rfl, rfl, rfl, rfl⟩ : k' = 0 ∧ cy' = 0 ∧ ct' = 0 ∧ a' = 0 ∧ b' = 0 ∧ v' = 0 := by
          have hq := HZ.out hm
          have q1 := congrArg Ev.k hq
          have q2 := congrArg Ev.cy hq
          have q3 := congrArg Ev.ct hq
          have q4 := congrArg Ev.a hq
          have q5 := congrArg Ev.b hq
          have q6 := congrArg Ev.v hq
          exact ⟨q1, q2, q3, q4, q5, q6⟩
        have dm : (m != 0) = true := by rw [bne_iff_ne]; exact hm
        clear hm
        go_wp2_with fail
        refine (hp _ (g.on hB5)).mono ?_
        rintro x w6 ⟨rfl, hk6⟩
        have hB6 := bel_next hB5 hk6
        have hE := heap_alloc_new w6 (.cells #[.int .i64 0, .int .u64 0, .int .u64 0, .int .u32 0, .int .u32 0, .int .u32 0] 25)
        have hB7 := hB6.alloc hB6.size (.cells #[.int .i64 0, .int .u64 0, .int .u64 0, .int .u32 0, .int .u32 0, .int .u32 0] 25)
        clear hk6 hB5 hB6 hp
        go_upto_region 9 with fail
        have ez : ((0 : Nat) : Int) = 0 := rfl
        try rw [ez]
        generalize w6.alloc (.cells #[.int .i64 0, .int .u64 0, .int .u64 0, .int .u32 0, .int .u32 0, .int .u32 0] 25) = w7 at hE hB7 ⊢
        generalize w6.heap.size = x7 at hE ⊢
        obtain ⟨c0, c1, c2, c3, c4, c5⟩ := ev_cells (e := ⟨0, 0, 0, 0, 0, 0⟩) hE
        simp only at c0 c1 c2 c3 c4 c5
        clear ez
        go_wp2_with fail
        go_ret
        exact ⟨rfl, hB7⟩
    · have d0 : (ck == 0) = false := by rw [beq_eq_false_iff_ne]; exact h0
      clear h0
      have hB5 := hB3
      clear hB3 hO3
      go_upto_region 8 with fail
      by_cases hm : m = 0
      · subst hm
        obtain ⟨wf', hc', ht'⟩ := HBK.out rfl
        have b1 : k' = k' := rfl
        have ba' : a' < 4294967296 := wf'.a
        have bb' : b' < 4294967296 := wf'.b
        have bv' : v' < 4294967296 := wf'.v
        have htx2 : ∀ x, Gl x → Calls Tryd.prog 15 #[.agg #[.int .i64 k', .int .u64 cy', .int .u64 ct', .int .u32 a', .int .u32 b', .int .u32 v']] x fun y w' => y = .returned (.tuple #[.string s, .int .i64 0]) ∧ Below x.heap.size x w' := fun x gx => (text_any ⟨k', cy', ct', a', b', v'⟩ wf' x gx).mono fun y w' q => ⟨q.1.trans (by rw [hc', if_pos rfl, ht']), q.2⟩
        clear wf' hc' ht' b1
        go_wp2_with fail
        refine (hp _ (g.on hB5)).mono ?_
        rintro x w6 ⟨rfl, hk6⟩
        have hB6 := bel_next hB5 hk6
        have hE := heap_alloc_new w6 (.cells #[.int .i64 k', .int .u64 cy', .int .u64 ct', .int .u32 a', .int .u32 b', .int .u32 v'] 25)
        have hB7 := hB6.alloc hB6.size (.cells #[.int .i64 k', .int .u64 cy', .int .u64 ct', .int .u32 a', .int .u32 b', .int .u32 v'] 25)
        clear hk6 hB5 hB6 hp
        go_upto_region 9 with fail
        generalize w6.alloc (.cells #[.int .i64 k', .int .u64 cy', .int .u64 ct', .int .u32 a', .int .u32 b', .int .u32 v'] 25) = w7 at hE hB7 ⊢
        generalize w6.heap.size = x7 at hE ⊢
        obtain ⟨c0, c1, c2, c3, c4, c5⟩ := ev_cells (e := ⟨k', cy', ct', a', b', v'⟩) hE
        simp only at c0 c1 c2 c3 c4 c5
        go_wp2_with fail
        refine (htx2 _ (g.on hB7)).mono ?_
        rintro x w8 ⟨rfl, hk8⟩
        have hB8 := bel_next hB7 hk8
        go_wp2_with fail
        go_ret
        exact ⟨rfl, hB8⟩
      · obtain ⟨rfl, rfl, rfl, rfl, rfl, rfl⟩ : k' = 0 ∧ cy' = 0 ∧ ct' = 0 ∧ a' = 0 ∧ b' = 0 ∧ v' = 0 := by
          have hq := HZ.out hm
          have q1 := congrArg Ev.k hq
          have q2 := congrArg Ev.cy hq
          have q3 := congrArg Ev.ct hq
          have q4 := congrArg Ev.a hq
          have q5 := congrArg Ev.b hq
          have q6 := congrArg Ev.v hq
          exact ⟨q1, q2, q3, q4, q5, q6⟩
        have dm : (m != 0) = true := by rw [bne_iff_ne]; exact hm
        clear hm
        go_wp2_with fail
        refine (hp _ (g.on hB5)).mono ?_
        rintro x w6 ⟨rfl, hk6⟩
        have hB6 := bel_next hB5 hk6
        have hE := heap_alloc_new w6 (.cells #[.int .i64 0, .int .u64 0, .int .u64 0, .int .u32 0, .int .u32 0, .int .u32 0] 25)
        have hB7 := hB6.alloc hB6.size (.cells #[.int .i64 0, .int .u64 0, .int .u64 0, .int .u32 0, .int .u32 0, .int .u32 0] 25)
        clear hk6 hB5 hB6 hp
        go_upto_region 9 with fail
        have ez : ((0 : Nat) : Int) = 0 := rfl
        try rw [ez]
        generalize w6.alloc (.cells #[.int .i64 0, .int .u64 0, .int .u64 0, .int .u32 0, .int .u32 0, .int .u32 0] 25) = w7 at hE hB7 ⊢
        generalize w6.heap.size = x7 at hE ⊢
        obtain ⟨c0, c1, c2, c3, c4, c5⟩ := ev_cells (e := ⟨0, 0, 0, 0, 0, 0⟩) hE
        simp only at c0 c1 c2 c3 c4 c5
        clear ez
        go_wp2_with fail
        go_ret
        exact ⟨rfl, hB7⟩
end Go.Proofs.YtokjkfbbejalhaaDoor
