/- Walks of layer 5's laws: EventChecks, EventFields, EventPasses. Conditions: the library's variables' data. -/
import Derived.Test.YtokjkfbbejalhaaDoorTy
import Derived.Test.YtokjkfbbejalhaaDoorEvT
import Derived.Test.YtokjkfbbejalhaaDoorEvR
import Derived.Test.YtokjkfbbejalhaaDoorTv
namespace Go.Proofs.YtokjkfbbejalhaaDoor
open Go Go.RowKit
set_option linter.unusedVariables false
set_option linter.unusedSimpArgs false
set_option maxRecDepth 20000
set_option maxHeartbeats 4000000 in
theorem eventChecks_law (e : Ev) (W : World) (g : Gl W) (he : e.Wf) : Calls Tryd.prog 3 #[e.val] W fun x W' => x = .returned (.bool true) ∧ Below W.heap.size W W' := by
  have hck := fun x => check_any e x
  have hrk := fun x => rcheck_any e x
  obtain ⟨k, cy, ct, a, b, v⟩ := e
  simp only [Ev.val] at hck hrk ⊢
  generalize (Ev.mk k cy ct a b v).chk = ck at hck hrk
  have hO : (W.alloc (.cells #[.int .i64 k, .int .u64 cy, .int .u64 ct, .int .u32 a, .int .u32 b, .int .u32 v] 25)).heap[W.heap.size]? = some (.cells (Ev.cells ⟨k, cy, ct, a, b, v⟩).toArray 25 (0, 0)) := heap_alloc_new W _
  have hB1 := (Below.refl W.heap.size W).alloc (Nat.le_refl _) (.cells #[.int .i64 k, .int .u64 cy, .int .u64 ct, .int .u32 a, .int .u32 b, .int .u32 v] 25)
  clear he
  go_enter Tryd.func3, Tryd.ntmps3
  go_upto_region 1 with fail
  generalize W.alloc (.cells #[.int .i64 k, .int .u64 cy, .int .u64 ct, .int .u32 a, .int .u32 b, .int .u32 v] 25) = w1 at hO hB1 ⊢
  obtain ⟨o, ho⟩ : ∃ o, o = W.heap.size := ⟨_, rfl⟩
  rw [← ho] at hO ⊢
  clear ho
  have g1 : Gl w1 := g.on hB1
  have fX : ∀ {w' : World}, Below w1.heap.size w1 w' → w'.cell? ⟨o, 0, none⟩ = some (.int .i64 k) ∧ w'.cell? ⟨o, 1, none⟩ = some (.int .u64 cy) ∧ w'.cell? ⟨o, 2, none⟩ = some (.int .u64 ct) ∧ w'.cell? ⟨o, 3, none⟩ = some (.int .u32 a) ∧ w'.cell? ⟨o, 4, none⟩ = some (.int .u32 b) ∧ w'.cell? ⟨o, 5, none⟩ = some (.int .u32 v) := fun h => ev_cells ((h.block _ (blk_lt hO)).trans hO)
  have H := fX (Below.refl _ w1).drew
  have kk := (Below.refl w1.heap.size w1).drew
  have haw := awake5_any w1.drew (g1.on kk)
  go_region_held3 (fun w' => w'.cell? ⟨o, 0, none⟩ = some (.int .i64 k) ∧ w'.cell? ⟨o, 1, none⟩ = some (.int .u64 cy) ∧ w'.cell? ⟨o, 2, none⟩ = some (.int .u64 ct) ∧ w'.cell? ⟨o, 3, none⟩ = some (.int .u32 a) ∧ w'.cell? ⟨o, 4, none⟩ = some (.int .u32 b) ∧ w'.cell? ⟨o, 5, none⟩ = some (.int .u32 v)) (first | exact H | assumption) (first | (go_at_call 9; (refine haw.mono ?_); rintro x wA ⟨rfl, hkA⟩; have hkWA := bel_next kk hkA; have hRA := fX hkWA) | (go_at_call 10; (refine (hck _).mono ?_); rintro x wB ⟨rfl, hkB⟩; have hkWB := bel_next hkWA hkB; have hRB := fX hkWB) | (go_at_call 11; (refine (hrk _).mono ?_); rintro x wC ⟨rfl, hkC⟩; have hkWC := bel_next hkWB hkC; have hRC := fX hkWC))
  go_wp2_with fail
  go_ret
  exact ⟨rfl, bel_next hB1 hkWC⟩
set_option maxHeartbeats 4000000 in
theorem eventFields_law (k0 : Int) (e : Ev) (W : World) (g : Gl W) (_h : -9223372036854775808 ≤ k0 ∧ k0 ≤ 9223372036854775807) (he : e.Wf) : Calls Tryd.prog 8 #[.int .i64 k0, e.val] W fun x W' => x = .returned (.bool true) ∧ Below W.heap.size W W' := by
  have hck := fun x => check_any e x
  have hno := @chk_no e
  have hf0 := fun x => fields_any k0 x
  have hr0 := fun x => rhas_any k0 x
  have hf1 := fun x => fields_any e.k x
  obtain ⟨k, cy, ct, a, b, v⟩ := e
  simp only [Ev.val] at hck hno hf1 ⊢
  generalize (Ev.mk k cy ct a b v).chk = ck at hck hno
  generalize hasA k0 = p1 at hf0 hr0
  generalize hasB k0 = p2 at hf0 hr0
  generalize hasV k0 = p3 at hf0 hr0
  generalize hasA k = q1 at hf1 hno
  generalize hasB k = q2 at hf1 hno
  generalize hasV k = q3 at hf1 hno
  have ba : a < 4294967296 := he.a
  have bb : b < 4294967296 := he.b
  have bv : v < 4294967296 := he.v
  have HNO := Lib.hid hno
  have hO : (W.alloc (.cells #[.int .i64 k, .int .u64 cy, .int .u64 ct, .int .u32 a, .int .u32 b, .int .u32 v] 25)).heap[W.heap.size]? = some (.cells (Ev.cells ⟨k, cy, ct, a, b, v⟩).toArray 25 (0, 0)) := heap_alloc_new W _
  have hB1 := (Below.refl W.heap.size W).alloc (Nat.le_refl _) (.cells #[.int .i64 k, .int .u64 cy, .int .u64 ct, .int .u32 a, .int .u32 b, .int .u32 v] 25)
  clear he hno
  go_enter Tryd.func8, Tryd.ntmps8
  go_upto_region 1 with fail
  generalize W.alloc (.cells #[.int .i64 k, .int .u64 cy, .int .u64 ct, .int .u32 a, .int .u32 b, .int .u32 v] 25) = w1 at hO hB1 ⊢
  obtain ⟨o, ho⟩ : ∃ o, o = W.heap.size := ⟨_, rfl⟩
  rw [← ho] at hO ⊢
  clear ho
  go_wp2_with fail
  refine (hf0 _).mono ?_
  rintro x w2 ⟨rfl, hk2⟩
  go_wp2_with fail
  refine (hr0 _).mono ?_
  rintro x w3 ⟨rfl, hk3⟩
  have hk := bel_next hk2 hk3
  have hB3 := bel_next hB1 hk
  have hO3 := (hk.block _ (blk_lt hO)).trans hO
  have hH : (w3.alloc (.cells #[.bool p1, .bool p2, .bool p3] 47)).heap[w3.heap.size]? = some (.cells #[.bool p1, .bool p2, .bool p3] 47 (0, 0)) := heap_alloc_new w3 _
  have hB4 := hB3.alloc hB3.size (.cells #[.bool p1, .bool p2, .bool p3] 47)
  have hO4 := blk_alloc hO3 (.cells #[.bool p1, .bool p2, .bool p3] 47)
  clear hk2 hk3 hk hB3 hO3 hO hB1 hf0 hr0
  go_upto_region 3 with fail
  generalize w3.alloc (.cells #[.bool p1, .bool p2, .bool p3] 47) = w4 at hH hB4 hO4 ⊢
  generalize w3.heap.size = h at hH ⊢
  have haw := awake5_any w4 (g.on hB4)
  go_wp2_with fail
  refine haw.mono ?_
  rintro x w5 ⟨rfl, hk5⟩
  have hB5 := bel_next hB4 hk5
  have hO5 := (hk5.block _ (blk_lt hO4)).trans hO4
  have hH5 := (hk5.block _ (blk_lt hH)).trans hH
  clear hB4 hO4 hH haw hk5
  have d0 : w5.cell? ⟨h, 0, none⟩ = some (.bool p1) := by rw [cell_blk hH5]; rfl
  have d1 : w5.cell? ⟨h, 1, none⟩ = some (.bool p2) := by rw [cell_blk hH5]; rfl
  have d2 : w5.cell? ⟨h, 2, none⟩ = some (.bool p3) := by rw [cell_blk hH5]; rfl
  obtain ⟨c0, c1, c2, c3, c4, c5⟩ := ev_cells hO5
  simp only at c0 c1 c2 c3 c4 c5
  go_wp2_with fail
  refine (hf1 _).mono ?_
  rintro x w6 ⟨rfl, hk6⟩
  have hB6 := bel_next hB5 hk6
  have hO6 := (hk6.block _ (blk_lt hO5)).trans hO5
  clear d0 d1 d2 c0 c1 c2 c3 c4 c5 hB5 hO5 hH5 hk6 hf1
  obtain ⟨c0, c1, c2, c3, c4, c5⟩ := ev_cells hO6
  simp only at c0 c1 c2 c3 c4 c5
  go_wp2_with fail
  refine (hck _).mono ?_
  rintro x w7 ⟨rfl, hk7⟩
  have hB7 := bel_next hB6 hk7
  have hO7 := (hk7.block _ (blk_lt hO6)).trans hO6
  clear c0 c1 c2 c3 c4 c5 hB6 hO6 hk7 hck
  obtain ⟨c0, c1, c2, c3, c4, c5⟩ := ev_cells hO7
  simp only at c0 c1 c2 c3 c4 c5
  by_cases h0 : ck = 0
  · obtain ⟨n1, n2, n3⟩ := HNO.out h0
    subst h0
    have e1 : q1 = true ∨ (q1 = false ∧ a = 0) := by cases q1; exact Or.inr ⟨rfl, n1 rfl⟩; exact Or.inl rfl
    have e2 : q2 = true ∨ (q2 = false ∧ b = 0) := by cases q2; exact Or.inr ⟨rfl, n2 rfl⟩; exact Or.inl rfl
    have e3 : q3 = true ∨ (q3 = false ∧ v = 0) := by cases q3; exact Or.inr ⟨rfl, n3 rfl⟩; exact Or.inl rfl
    clear n1 n2 n3
    rcases e1 with rfl | ⟨rfl, rfl⟩ <;> rcases e2 with rfl | ⟨rfl, rfl⟩ <;> rcases e3 with rfl | ⟨rfl, rfl⟩
    all_goals
      go_wp2_with fail
      go_ret
      exact ⟨rfl, hB7⟩
  · have d : (ck != 0) = true := by rw [bne_iff_ne]; exact h0
    clear h0
    go_wp2_with fail
    go_ret
    exact ⟨rfl, hB7⟩
/-- What a filter lets pass. -/
def wantJ (f : Nat) (k : Int) (j : Nat) : Bool := decide (k = 24) || (decide (1 ≤ k ∧ k ≤ 24 ∧ k < j) && decide (f / 2 ^ k.toNat % 2 = 1))
theorem pass_any (f : Nat) (hf : f < 4294967296) (k : Int) (w : World) : Calls Tryd.prog 19 #[.int .u32 f, .int .i64 k] w fun e w' => e = .returned (.bool (wantJ f k 32)) ∧ w = w' := by
  by_cases h : 1 ≤ k ∧ k ≤ 24
  · obtain ⟨n, rfl⟩ : ∃ n : Nat, k = n := ⟨k.toNat, by omega⟩
    have := pass_yes f hf n (by omega) (by omega) w
    have e : wantJ f n 32 = (decide (n = 24) || decide (f / 2 ^ n % 2 = 1)) := by
      unfold wantJ
      rw [show (decide ((n : Int) = 24)) = decide (n = 24) by by_cases q : n = 24 <;> simp [q] <;> omega, decide_eq_true (show 1 ≤ (n : Int) ∧ (n : Int) ≤ 24 ∧ (n : Int) < (32 : Nat) by omega)]
      simp
    rw [e]
    exact this
  · have := pass_no f k (by simp [isK]; omega) w
    have e : wantJ f k 32 = false := by
      unfold wantJ
      rw [decide_eq_false (show ¬ k = 24 by omega), decide_eq_false (show ¬ (1 ≤ k ∧ k ≤ 24 ∧ k < (32 : Nat)) by omega)]
      rfl
    rw [e]
    exact this
theorem wantJ_step (f : Nat) (k : Int) (j : Nat) : wantJ f k (j + 1) = if f / 2 ^ j % 2 = 1 ∧ (j : Int) = k ∧ 1 ≤ k ∧ k ≤ 24 then true else wantJ f k j := by
  unfold wantJ
  by_cases h : (j : Int) = k
  · subst h
    by_cases h1 : 1 ≤ (j : Int) ∧ (j : Int) ≤ 24
    · rw [decide_eq_true (show 1 ≤ (j : Int) ∧ (j : Int) ≤ 24 ∧ (j : Int) < (j + 1 : Nat) by omega), decide_eq_false (show ¬ (1 ≤ (j : Int) ∧ (j : Int) ≤ 24 ∧ (j : Int) < (j : Nat)) by omega), Int.toNat_natCast]
      by_cases h2 : f / 2 ^ j % 2 = 1
      · rw [if_pos ⟨h2, rfl, h1.1, h1.2⟩]; simp [h2]
      · rw [if_neg (fun q => h2 q.1)]; simp [h2]
    · rw [decide_eq_false (show ¬ (1 ≤ (j : Int) ∧ (j : Int) ≤ 24 ∧ (j : Int) < (j + 1 : Nat)) by omega), decide_eq_false (show ¬ (1 ≤ (j : Int) ∧ (j : Int) ≤ 24 ∧ (j : Int) < (j : Nat)) by omega), if_neg (fun q => h1 q.2.2)]
  · rw [if_neg (fun q => h q.2.1)]
    have : (1 ≤ k ∧ k ≤ 24 ∧ k < (j + 1 : Nat)) ↔ (1 ≤ k ∧ k ≤ 24 ∧ k < (j : Nat)) := by omega
    rw [decide_eq_decide.2 this]
set_option maxHeartbeats 4000000 in
theorem eventPasses_law (f : Nat) (k : Int) (W : World) (g : Gl W) (hf : f < 4294967296) (_h : -9223372036854775808 ≤ k ∧ k ≤ 9223372036854775807) : Calls Tryd.prog 7 #[.int .u32 f, .int .i64 k] W fun x W' => x = .returned (.bool true) ∧ Below W.heap.size W W' := by
  have hps := fun x => pass_any f hf k x
  have H0 := Lib.hid (show wantJ f k 0 = (k == 24) by
    unfold wantJ
    rw [decide_eq_false (show ¬ (1 ≤ k ∧ k ≤ 24 ∧ k < (0 : Nat)) by omega), Bool.false_and, Bool.or_false]
    by_cases h : k = 24 <;> simp [h])
  go_enter Tryd.func7, Tryd.ntmps7
  go_wp2_with fail
  go_loopw [5, 6, 7] (fun u x y wr => ∃ (j n : Nat) (b : Bool), y = .int .i64 j ∧ x = .int .u32 n ∧ u = .bool b ∧ j ≤ 32 ∧ Hid (n = f / 2 ^ j) ∧ n < 4294967296 ∧ Hid (b = wantJ f k j) ∧ W = wr) (fun _ _ y _ => 32 - (intOf y).toNat)
  case atStart => exact ⟨0, f, _, rfl, rfl, rfl, by decide, Lib.hid (by simp), hf, Lib.hid H0.out.symm, rfl⟩
  case round =>
    obtain ⟨j, n, b, rfl, rfl, rfl, hj, HN, hn, HB, rfl⟩ := hrel
    by_cases hlt : j < 32
    · have hjI : (j : Int) < 32 := by omega
      have HS := Lib.hid (wantJ_step f k j)
      have HN2 := Lib.hid (show n / 2 = f / 2 ^ (j + 1) by rw [HN.out, Nat.div_div_eq_div_mul, Nat.pow_succ])
      have hall : ((n : Int) % 2 == 1) = false ∨ (((n : Int) % 2 == 1) = true ∧ ((j : Int) == k) = false) ∨ (((n : Int) % 2 == 1) = true ∧ ((j : Int) == k) = true ∧ ¬ 1 ≤ k) ∨ (((n : Int) % 2 == 1) = true ∧ ((j : Int) == k) = true ∧ 1 ≤ k ∧ ¬ k ≤ 24) ∨ (((n : Int) % 2 == 1) = true ∧ ((j : Int) == k) = true ∧ 1 ≤ k ∧ k ≤ 24) := by
        by_cases h1 : (n : Int) % 2 = 1
        · have e1 : ((n : Int) % 2 == 1) = true := by rw [h1]; rfl
          by_cases h2 : (j : Int) = k
          · have e2 : ((j : Int) == k) = true := by rw [h2]; simp
            by_cases h3 : 1 ≤ k
            · by_cases h4 : k ≤ 24
              · exact Or.inr (Or.inr (Or.inr (Or.inr ⟨e1, e2, h3, h4⟩)))
              · exact Or.inr (Or.inr (Or.inr (Or.inl ⟨e1, e2, h3, h4⟩)))
            · exact Or.inr (Or.inr (Or.inl ⟨e1, e2, h3⟩))
          · exact Or.inr (Or.inl ⟨e1, by rw [beq_eq_false_iff_ne]; exact h2⟩)
        · exact Or.inl (by rw [beq_eq_false_iff_ne]; exact h1)
      have hall2 : (((n : Int) % 2 == 1) = true ∧ ((j : Int) == k) = true ∧ 1 ≤ k ∧ k ≤ 24 ∧ Hid (wantJ f k (j + 1) = true)) ∨ (Hid (b = wantJ f k (j + 1)) ∧ (((n : Int) % 2 == 1) = false ∨ (((n : Int) % 2 == 1) = true ∧ ((j : Int) == k) = false) ∨ (((n : Int) % 2 == 1) = true ∧ ((j : Int) == k) = true ∧ ¬ 1 ≤ k) ∨ (((n : Int) % 2 == 1) = true ∧ ((j : Int) == k) = true ∧ 1 ≤ k ∧ ¬ k ≤ 24))) := by
        have key : ¬ (f / 2 ^ j % 2 = 1 ∧ (j : Int) = k ∧ 1 ≤ k ∧ k ≤ 24) → Hid (b = wantJ f k (j + 1)) := fun q => Lib.hid (by rw [HS.out, if_neg q, ← HB.out])
        rcases hall with h | ⟨h, h2⟩ | ⟨h, h2, h3⟩ | ⟨h, h2, h3, h4⟩ | ⟨h, h2, h3, h4⟩
        · refine Or.inr ⟨key fun q => ?_, Or.inl h⟩
          rw [← HN.out] at q
          have := beq_eq_false_iff_ne.1 h
          omega
        · exact Or.inr ⟨key fun q => beq_eq_false_iff_ne.1 h2 q.2.1, Or.inr (Or.inl ⟨h, h2⟩)⟩
        · exact Or.inr ⟨key fun q => h3 q.2.2.1, Or.inr (Or.inr (Or.inl ⟨h, h2, h3⟩))⟩
        · exact Or.inr ⟨key fun q => h4 q.2.2.2, Or.inr (Or.inr (Or.inr ⟨h, h2, h3, h4⟩))⟩
        · refine Or.inl ⟨h, h2, h3, h4, Lib.hid ?_⟩
          have h9 := HN.out
          have h8 := eq_of_beq h
          rw [HS.out, if_pos ⟨by omega, eq_of_beq h2, h3, h4⟩]
      clear hall HS
      rcases hall2 with ⟨h, h2, h3, h4, HT⟩ | ⟨HT, h | ⟨h, h2⟩ | ⟨h, h2, h3⟩ | ⟨h, h2, h3, h4⟩⟩
      · go_wp2_with fail
        go_roundw
        case rel => exact ⟨j + 1, n / 2, true, by go_num, by simp, rfl, by omega, HN2, by omega, Lib.hid HT.out.symm, trivial⟩
        case measure => simp [intOf]; omega
      all_goals
        go_wp2_with fail
        go_roundw
        case rel => exact ⟨j + 1, n / 2, b, by go_num, by simp, rfl, by omega, HN2, by omega, HT, trivial⟩
        case measure => simp [intOf]; omega
    · obtain rfl : j = 32 := by omega
      have haw := awake5_any W g
      rw [← HB.out] at hps
      go_wp2_with fail
      refine haw.mono ?_
      rintro x w5 ⟨rfl, hk5⟩
      go_wp2_with fail
      refine (hps _).mono ?_
      rintro x w6 ⟨rfl, rfl⟩
      cases b
      all_goals
        go_wp2_with fail
        go_ret
        exact ⟨rfl, hk5⟩
end Go.Proofs.YtokjkfbbejalhaaDoor
