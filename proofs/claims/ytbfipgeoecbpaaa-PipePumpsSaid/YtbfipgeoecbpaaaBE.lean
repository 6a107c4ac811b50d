/- A bundle of: EvA EvB EvC EvN EvR EvP EvQ EvS EvT. -/
import Derived.Test.YtbfipgeoecbpaaaProg
import Derived.Test.YtbfipgeoecbpaaaCore
import Derived.Test.YtbfipgeoecbpaaaBP
import Derived.Deep.WholeRow
import Derived.Deep.DeepCutAuto
/- Contracts of package event (shape, within, Fields, Check, Name). No condition but those that each names. -/
namespace Go.Proofs.Ytbfipgeoecbpaaa
open Go.RowKit
set_option maxRecDepth 20000
theorem is_any (k : Int) (w : World) : Calls Try.prog 76 #[.int .i64 k] w fun e w' => e = .returned (.bool (isK k)) ∧ w = w' := by
  by_cases h1 : 1 ≤ k <;> by_cases h2 : k ≤ 24
  all_goals (have e : isK k = (decide (1 ≤ k) && decide (k ≤ 24)) := by simp [isK])
  all_goals (rw [e]; clear e)
  all_goals (simp only [h1, h2])
  all_goals go_enter Try.func76, Try.ntmps76
  all_goals go_wp2
  all_goals go_ret
  all_goals exact ⟨rfl, rfl⟩
set_option maxHeartbeats 1000000 in
theorem other_any (k : Int) (w : World) (h : 14 ≤ k ∨ k < 1) (h20 : k ≠ 20) : Calls Try.prog 101 #[.int .i64 k] w fun e w' => e = .returned (.agg #[.int .i64 (sh k).1, .int .i64 (sh k).2.1, .int .i64 (sh k).2.2]) ∧ Below w.heap.size w w' := by
  go_enter Try.func101, Try.ntmps101
  go_wp2
  all_goals first
    | (refine leaf_k (n := 14) (k := k) ?_ ?_; assumption; rintro rfl; exact bodyPost_ret (v := .agg #[.int .i64 7, .int .i64 4, .int .i64 11]) (by simp [results, Try.results101, go_sem]) rfl ⟨rfl, (Below.refl _ _).alloc (Nat.le_refl _) _⟩)
    | (refine leaf_k (n := 15) (k := k) ?_ ?_; assumption; rintro rfl; exact bodyPost_ret (v := .agg #[.int .i64 5, .int .i64 4, .int .i64 11]) (by simp [results, Try.results101, go_sem]) rfl ⟨rfl, (Below.refl _ _).alloc (Nat.le_refl _) _⟩)
    | (refine leaf_k (n := 16) (k := k) ?_ ?_; assumption; rintro rfl; exact bodyPost_ret (v := .agg #[.int .i64 6, .int .i64 4, .int .i64 1]) (by simp [results, Try.results101, go_sem]) rfl ⟨rfl, (Below.refl _ _).alloc (Nat.le_refl _) _⟩)
    | (refine leaf_k (n := 17) (k := k) ?_ ?_; assumption; rintro rfl; exact bodyPost_ret (v := .agg #[.int .i64 6, .int .i64 4, .int .i64 1]) (by simp [results, Try.results101, go_sem]) rfl ⟨rfl, (Below.refl _ _).alloc (Nat.le_refl _) _⟩)
    | (refine leaf_k (n := 19) (k := k) ?_ ?_; assumption; rintro rfl; exact bodyPost_ret (v := .agg #[.int .i64 6, .int .i64 4, .int .i64 1]) (by simp [results, Try.results101, go_sem]) rfl ⟨rfl, (Below.refl _ _).alloc (Nat.le_refl _) _⟩)
    | (refine leaf_k (n := 18) (k := k) ?_ ?_; assumption; rintro rfl; exact bodyPost_ret (v := .agg #[.int .i64 4, .int .i64 0, .int .i64 0]) (by simp [results, Try.results101, go_sem]) rfl ⟨rfl, (Below.refl _ _).alloc (Nat.le_refl _) _⟩)
    | (refine leaf_k (n := 21) (k := k) ?_ ?_; assumption; rintro rfl; exact bodyPost_ret (v := .agg #[.int .i64 6, .int .i64 13, .int .i64 0]) (by simp [results, Try.results101, go_sem]) rfl ⟨rfl, (Below.refl _ _).alloc (Nat.le_refl _) _⟩)
    | (refine leaf_k (n := 22) (k := k) ?_ ?_; assumption; rintro rfl; exact bodyPost_ret (v := .agg #[.int .i64 5, .int .i64 0, .int .i64 0]) (by simp [results, Try.results101, go_sem]) rfl ⟨rfl, (Below.refl _ _).alloc (Nat.le_refl _) _⟩)
    | (refine leaf_k (n := 23) (k := k) ?_ ?_; assumption; rintro rfl; exact bodyPost_ret (v := .agg #[.int .i64 7, .int .i64 13, .int .i64 14]) (by simp [results, Try.results101, go_sem]) rfl ⟨rfl, (Below.refl _ _).alloc (Nat.le_refl _) _⟩)
    | (refine leaf_n (n := 14) (k := k) ?_ ?_; assumption; intro hn14; refine leaf_n (n := 15) (k := k) ?_ ?_; assumption; intro hn15; refine leaf_n (n := 16) (k := k) ?_ ?_; assumption; intro hn16; refine leaf_n (n := 17) (k := k) ?_ ?_; assumption; intro hn17; refine leaf_n (n := 19) (k := k) ?_ ?_; assumption; intro hn19; refine leaf_n (n := 18) (k := k) ?_ ?_; assumption; intro hn18; refine leaf_n (n := 21) (k := k) ?_ ?_; assumption; intro hn21; refine leaf_n (n := 22) (k := k) ?_ ?_; assumption; intro hn22; refine leaf_n (n := 23) (k := k) ?_ ?_; assumption; intro hn23; exact bodyPost_ret (v := .agg #[.int .i64 0, .int .i64 0, .int .i64 0]) (by simp [results, Try.results101, go_sem]) rfl ⟨by rw [show sh k = (0, 0, 0) from sh_no (by omega)]; rfl, (Below.refl _ _).alloc (Nat.le_refl _) _⟩)
set_option maxHeartbeats 1000000 in
theorem shape_any (k : Int) (w : World) : Calls Try.prog 77 #[.int .i64 k] w fun e w' => e = .returned (.agg #[.int .i64 (sh k).1, .int .i64 (sh k).2.1, .int .i64 (sh k).2.2]) ∧ Below w.heap.size w w' := by
  by_cases hk : (14 ≤ k ∨ k < 1) ∧ k ≠ 20
  · have ho := fun x : World => other_any k x hk.1 hk.2
    have h1 : (k == 1) = false := eqb_f (by omega)
    have h2 : (k == 2) = false := eqb_f (by omega)
    have h20 : (k == 20) = false := eqb_f (by omega)
    have h3 : (k == 3) = false := eqb_f (by omega)
    have h4 : (k == 4) = false := eqb_f (by omega)
    have h5 : (k == 5) = false := eqb_f (by omega)
    have h6 : (k == 6) = false := eqb_f (by omega)
    have h8 : (k == 8) = false := eqb_f (by omega)
    have h7 : (k == 7) = false := eqb_f (by omega)
    have h9 : (k == 9) = false := eqb_f (by omega)
    have h10 : (k == 10) = false := eqb_f (by omega)
    have h11 : (k == 11) = false := eqb_f (by omega)
    have h12 : (k == 12) = false := eqb_f (by omega)
    have h13 : (k == 13) = false := eqb_f (by omega)
    clear hk
    go_enter Try.func77, Try.ntmps77
    go_wp2_with fail
    refine (ho _).mono ?_
    rintro e w1 ⟨rfl, hb⟩
    have hblk := (hb.block w.heap.size (by simp)).trans (heap_alloc_new w _)
    have hf := frozen_blk hblk 0
    have hf1 := frozen_blk hblk 1
    have hf2 := frozen_blk hblk 2
    have c0 : w1.cell? ⟨w.heap.size, 0, none⟩ = some (.int .i64 0) := by rw [cell_blk hblk]; rfl
    have c1 : w1.cell? ⟨w.heap.size, 1, none⟩ = some (.int .i64 0) := by rw [cell_blk hblk]; rfl
    have c2 : w1.cell? ⟨w.heap.size, 2, none⟩ = some (.int .i64 0) := by rw [cell_blk hblk]; rfl
    have hbel : Below w.heap.size w w1 := ((Below.refl _ w).alloc (Nat.le_refl _) _).trans (hb.mono (by simp))
    clear hb hblk ho
    go_wp2_with fail
    exact bodyPost_ret (v := .agg #[.int .i64 (sh k).1, .int .i64 (sh k).2.1, .int .i64 (sh k).2.2]) (by simp [results, Try.results77, go_sem, c0, c1, c2]) rfl ⟨rfl, ((hbel.setCell (Nat.le_refl _) _).setCell (Nat.le_refl _) _).setCell (Nat.le_refl _) _⟩
  · go_enter Try.func77, Try.ntmps77
    go_wp2_with fail
    all_goals first
      | (refine leaf_k (n := 1) (k := k) ?_ ?_; assumption; rintro rfl; exact bodyPost_ret (v := .agg #[.int .i64 3, .int .i64 2, .int .i64 0]) (by simp [results, Try.results77, go_sem]) rfl ⟨rfl, (Below.refl _ _).alloc (Nat.le_refl _) _⟩)
      | (refine leaf_k (n := 2) (k := k) ?_ ?_; assumption; rintro rfl; exact bodyPost_ret (v := .agg #[.int .i64 3, .int .i64 6, .int .i64 1]) (by simp [results, Try.results77, go_sem]) rfl ⟨rfl, (Below.refl _ _).alloc (Nat.le_refl _) _⟩)
      | (refine leaf_k (n := 20) (k := k) ?_ ?_; assumption; rintro rfl; exact bodyPost_ret (v := .agg #[.int .i64 3, .int .i64 6, .int .i64 1]) (by simp [results, Try.results77, go_sem]) rfl ⟨rfl, (Below.refl _ _).alloc (Nat.le_refl _) _⟩)
      | (refine leaf_k (n := 3) (k := k) ?_ ?_; assumption; rintro rfl; exact bodyPost_ret (v := .agg #[.int .i64 3, .int .i64 0, .int .i64 0]) (by simp [results, Try.results77, go_sem]) rfl ⟨rfl, (Below.refl _ _).alloc (Nat.le_refl _) _⟩)
      | (refine leaf_k (n := 4) (k := k) ?_ ?_; assumption; rintro rfl; exact bodyPost_ret (v := .agg #[.int .i64 3, .int .i64 0, .int .i64 0]) (by simp [results, Try.results77, go_sem]) rfl ⟨rfl, (Below.refl _ _).alloc (Nat.le_refl _) _⟩)
      | (refine leaf_k (n := 5) (k := k) ?_ ?_; assumption; rintro rfl; exact bodyPost_ret (v := .agg #[.int .i64 8, .int .i64 8, .int .i64 0]) (by simp [results, Try.results77, go_sem]) rfl ⟨rfl, (Below.refl _ _).alloc (Nat.le_refl _) _⟩)
      | (refine leaf_k (n := 6) (k := k) ?_ ?_; assumption; rintro rfl; exact bodyPost_ret (v := .agg #[.int .i64 5, .int .i64 0, .int .i64 1]) (by simp [results, Try.results77, go_sem]) rfl ⟨rfl, (Below.refl _ _).alloc (Nat.le_refl _) _⟩)
      | (refine leaf_k (n := 8) (k := k) ?_ ?_; assumption; rintro rfl; exact bodyPost_ret (v := .agg #[.int .i64 5, .int .i64 0, .int .i64 1]) (by simp [results, Try.results77, go_sem]) rfl ⟨rfl, (Below.refl _ _).alloc (Nat.le_refl _) _⟩)
      | (refine leaf_k (n := 7) (k := k) ?_ ?_; assumption; rintro rfl; exact bodyPost_ret (v := .agg #[.int .i64 5, .int .i64 0, .int .i64 12]) (by simp [results, Try.results77, go_sem]) rfl ⟨rfl, (Below.refl _ _).alloc (Nat.le_refl _) _⟩)
      | (refine leaf_k (n := 9) (k := k) ?_ ?_; assumption; rintro rfl; exact bodyPost_ret (v := .agg #[.int .i64 5, .int .i64 9, .int .i64 0]) (by simp [results, Try.results77, go_sem]) rfl ⟨rfl, (Below.refl _ _).alloc (Nat.le_refl _) _⟩)
      | (refine leaf_k (n := 10) (k := k) ?_ ?_; assumption; rintro rfl; exact bodyPost_ret (v := .agg #[.int .i64 5, .int .i64 2, .int .i64 0]) (by simp [results, Try.results77, go_sem]) rfl ⟨rfl, (Below.refl _ _).alloc (Nat.le_refl _) _⟩)
      | (refine leaf_k (n := 11) (k := k) ?_ ?_; assumption; rintro rfl; exact bodyPost_ret (v := .agg #[.int .i64 5, .int .i64 10, .int .i64 0]) (by simp [results, Try.results77, go_sem]) rfl ⟨rfl, (Below.refl _ _).alloc (Nat.le_refl _) _⟩)
      | (refine leaf_k (n := 12) (k := k) ?_ ?_; assumption; rintro rfl; exact bodyPost_ret (v := .agg #[.int .i64 5, .int .i64 4, .int .i64 0]) (by simp [results, Try.results77, go_sem]) rfl ⟨rfl, (Below.refl _ _).alloc (Nat.le_refl _) _⟩)
      | (refine leaf_k (n := 13) (k := k) ?_ ?_; assumption; rintro rfl; exact bodyPost_ret (v := .agg #[.int .i64 5, .int .i64 4, .int .i64 0]) (by simp [results, Try.results77, go_sem]) rfl ⟨rfl, (Below.refl _ _).alloc (Nat.le_refl _) _⟩)
      | (refine leaf_n (n := 1) (k := k) ?_ ?_; assumption; intro hn1; refine leaf_n (n := 2) (k := k) ?_ ?_; assumption; intro hn2; refine leaf_n (n := 20) (k := k) ?_ ?_; assumption; intro hn20; refine leaf_n (n := 3) (k := k) ?_ ?_; assumption; intro hn3; refine leaf_n (n := 4) (k := k) ?_ ?_; assumption; intro hn4; refine leaf_n (n := 5) (k := k) ?_ ?_; assumption; intro hn5; refine leaf_n (n := 6) (k := k) ?_ ?_; assumption; intro hn6; refine leaf_n (n := 8) (k := k) ?_ ?_; assumption; intro hn8; refine leaf_n (n := 7) (k := k) ?_ ?_; assumption; intro hn7; refine leaf_n (n := 9) (k := k) ?_ ?_; assumption; intro hn9; refine leaf_n (n := 10) (k := k) ?_ ?_; assumption; intro hn10; refine leaf_n (n := 11) (k := k) ?_ ?_; assumption; intro hn11; refine leaf_n (n := 12) (k := k) ?_ ?_; assumption; intro hn12; refine leaf_n (n := 13) (k := k) ?_ ?_; assumption; intro hn13; exfalso; omega)
end Go.Proofs.Ytbfipgeoecbpaaa
/- Contracts of package event (within). No condition but those that each names. -/
namespace Go.Proofs.Ytbfipgeoecbpaaa
open Go.RowKit
set_option maxRecDepth 20000
theorem within_any (n o : Nat) (ho : o ≤ 14) (w : World) : Calls Try.prog 78 #[.int .u32 n, .int .i64 o] w fun e w' => e = .returned (.bool (wth n o)) ∧ w = w' := by
  rcases o_cases ho with rfl | rfl | rfl | rfl | rfl | rfl | rfl | rfl | rfl | rfl | rfl | rfl | rfl | rfl | rfl
  all_goals go_enter Try.func78, Try.ntmps78
  all_goals go_wp2_with fail
  all_goals go_ret
  all_goals exact ⟨ret_bool (by rw [Bool.eq_iff_iff]; simp [wth] <;> omega), rfl⟩
end Go.Proofs.Ytbfipgeoecbpaaa
/- Contracts of package event (shape, within, Fields, Check, Name). No condition but those that each names. -/
namespace Go.Proofs.Ytbfipgeoecbpaaa
open Go.RowKit
set_option maxRecDepth 20000
theorem ev_cells {w : World} {b : Nat} {e : Ev} {T : TypeId} {fz : Nat × Nat} (h : w.heap[b]? = some (.cells e.cells.toArray T fz)) :
    w.cell? ⟨b, 0, none⟩ = some (.int .i64 e.k) ∧ w.cell? ⟨b, 1, none⟩ = some (.int .u64 e.cy) ∧ w.cell? ⟨b, 2, none⟩ = some (.int .u64 e.ct) ∧ w.cell? ⟨b, 3, none⟩ = some (.int .u32 e.a) ∧ w.cell? ⟨b, 4, none⟩ = some (.int .u32 e.b) ∧ w.cell? ⟨b, 5, none⟩ = some (.int .u32 e.v) :=
  ⟨by rw [cell_blk h]; rfl, by rw [cell_blk h]; rfl, by rw [cell_blk h]; rfl, by rw [cell_blk h]; rfl, by rw [cell_blk h]; rfl, by rw [cell_blk h]; rfl⟩
theorem bcell {B : Nat} {W w1 : World} (hb : Below B W w1) : (∀ b o, b < B → w1.cell? ⟨b, o, none⟩ = W.cell? ⟨b, o, none⟩) ∧ (∀ b o, b < B → w1.frozen? ⟨b, o, none⟩ = W.frozen? ⟨b, o, none⟩) :=
  ⟨fun b o h => hb.cell (p := ⟨b, o, none⟩) h, fun b o h => hb.frozen (p := ⟨b, o, none⟩) h⟩
theorem ne0_nat (n : Nat) : ((n : Int) != 0) = (n != 0) := by
  rw [Bool.eq_iff_iff]; simp
theorem fields_any (k : Int) (w : World) : Calls Try.prog 104 #[.int .i64 k] w fun e w' => e = .returned (.tuple #[.bool (hasA k), .bool (hasB k), .bool (hasV k)]) ∧ Below w.heap.size w w' := by
  have hs := fun x => shape_any k x
  unfold hasA hasB hasV
  generalize sh k = s at hs ⊢
  obtain ⟨p, q, r⟩ := s
  simp only at hs ⊢
  simp only [← ne0_nat]
  go_enter Try.func104, Try.ntmps104
  go_wp2_with fail
  refine (hs _).mono ?_
  rintro e w1 ⟨rfl, hb⟩
  clear hs
  have hz := hb.size
  go_wp2_with fail
  go_quiet (fail)
  go_wp2_with fail
  go_ret3
  exact ⟨rfl, below_drewN (hb.alloc hz _) _⟩
set_option maxHeartbeats 2000000 in
theorem check_any (e : Ev) (w : World) : Calls Try.prog 56 #[e.val] w fun x w' => x = .returned (.int .i64 e.chk) ∧ Below w.heap.size w w' := by
  obtain ⟨k, cy, ct, a, b, v⟩ := e
  unfold Ev.val Ev.chk Ev.okB
  simp only
  cases hk : isK k
  · rw [if_neg (by simp)]
    have hi := fun x => is_any k x
    rw [hk] at hi
    clear hk
    go_enter Try.func56, Try.ntmps56
    go_wp2_with (go_at_call 76; refine (hi _).mono ?_; rintro e w1 ⟨rfl, rfl⟩)
    go_ret
    exact ⟨rfl, (Below.refl _ _).alloc (Nat.le_refl _) _⟩
  · rw [if_pos rfl]
    have hi := fun x => is_any k x
    rw [hk] at hi
    clear hk
    have hs := fun x => shape_any k x
    have hl := sh_le k
    generalize sh k = s at hs hl ⊢
    obtain ⟨p, q, r⟩ := s
    simp only at hs hl ⊢
    have h1 := fun x => within_any a p hl.1 x
    have h2 := fun x => within_any b q hl.2.1 x
    have h3 := fun x => within_any v r hl.2.2 x
    generalize wth a p = x1 at h1 ⊢
    generalize wth b q = x2 at h2 ⊢
    generalize wth v r = x3 at h3 ⊢
    clear hl
    cases x1
    case false =>
      go_enter Try.func56, Try.ntmps56
      go_wp2_with fail
      refine (hi _).mono ?_
      rintro e w1 ⟨rfl, rfl⟩
      go_wp2_with fail
      refine (hs _).mono ?_
      rintro e w2 ⟨rfl, hb⟩
      have hz : w.heap.size < w2.heap.size := by (have := hb.size; simp at this; omega)
      have hblk := (hb.block w.heap.size (by simp)).trans (heap_alloc_new w _)
      obtain ⟨c0, c1, c2, c3, c4, c5⟩ := ev_cells (e := ⟨k, cy, ct, a, b, v⟩) hblk
      simp only at c0 c1 c2 c3 c4 c5
      have hbel : Below w.heap.size w w2 := ((Below.refl _ w).alloc (Nat.le_refl _) _).trans (hb.mono (by simp))
      clear hb hblk hi hs
      go_wp2_with (first | (go_at_call 78; (with_reducible refine (h1 _).mono ?_); rintro e w3 ⟨rfl, rfl⟩) | (go_at_call 78; (with_reducible refine (h2 _).mono ?_); rintro e w3 ⟨rfl, rfl⟩) | (go_at_call 78; (with_reducible refine (h3 _).mono ?_); rintro e w3 ⟨rfl, rfl⟩))
      go_ret
      exact ⟨rfl, hbel.alloc (by omega) _⟩
    case true =>
      cases x2
      case false =>
        go_enter Try.func56, Try.ntmps56
        go_wp2_with fail
        refine (hi _).mono ?_
        rintro e w1 ⟨rfl, rfl⟩
        go_wp2_with fail
        refine (hs _).mono ?_
        rintro e w2 ⟨rfl, hb⟩
        have hz : w.heap.size < w2.heap.size := by (have := hb.size; simp at this; omega)
        have hblk := (hb.block w.heap.size (by simp)).trans (heap_alloc_new w _)
        obtain ⟨c0, c1, c2, c3, c4, c5⟩ := ev_cells (e := ⟨k, cy, ct, a, b, v⟩) hblk
        simp only at c0 c1 c2 c3 c4 c5
        have hbel : Below w.heap.size w w2 := ((Below.refl _ w).alloc (Nat.le_refl _) _).trans (hb.mono (by simp))
        clear hb hblk hi hs
        go_wp2_with (first | (go_at_call 78; (with_reducible refine (h1 _).mono ?_); rintro e w3 ⟨rfl, rfl⟩) | (go_at_call 78; (with_reducible refine (h2 _).mono ?_); rintro e w3 ⟨rfl, rfl⟩) | (go_at_call 78; (with_reducible refine (h3 _).mono ?_); rintro e w3 ⟨rfl, rfl⟩))
        go_ret
        exact ⟨rfl, hbel.alloc (by omega) _⟩
      case true =>
        cases x3
        case false =>
          go_enter Try.func56, Try.ntmps56
          go_wp2_with fail
          refine (hi _).mono ?_
          rintro e w1 ⟨rfl, rfl⟩
          go_wp2_with fail
          refine (hs _).mono ?_
          rintro e w2 ⟨rfl, hb⟩
          have hz : w.heap.size < w2.heap.size := by (have := hb.size; simp at this; omega)
          have hblk := (hb.block w.heap.size (by simp)).trans (heap_alloc_new w _)
          obtain ⟨c0, c1, c2, c3, c4, c5⟩ := ev_cells (e := ⟨k, cy, ct, a, b, v⟩) hblk
          simp only at c0 c1 c2 c3 c4 c5
          have hbel : Below w.heap.size w w2 := ((Below.refl _ w).alloc (Nat.le_refl _) _).trans (hb.mono (by simp))
          clear hb hblk hi hs
          go_wp2_with (first | (go_at_call 78; (with_reducible refine (h1 _).mono ?_); rintro e w3 ⟨rfl, rfl⟩) | (go_at_call 78; (with_reducible refine (h2 _).mono ?_); rintro e w3 ⟨rfl, rfl⟩) | (go_at_call 78; (with_reducible refine (h3 _).mono ?_); rintro e w3 ⟨rfl, rfl⟩))
          go_ret
          exact ⟨rfl, hbel.alloc (by omega) _⟩
        case true =>
          by_cases h5 : k = 5
          · by_cases hab : a = b
            · have d5 : (k == 5) = true := eqb_t h5
              have dab : ((a : Int) == b) = true := by rw [hab]; simp
              have dh5 : decide (k = 5) = true := by simp [h5]
              have dhab : decide (a = b) = true := by simp [hab]
              rw [dh5, dhab]
              clear h5 hab dh5 dhab
              go_enter Try.func56, Try.ntmps56
              go_wp2_with fail
              refine (hi _).mono ?_
              rintro e w1 ⟨rfl, rfl⟩
              go_wp2_with fail
              refine (hs _).mono ?_
              rintro e w2 ⟨rfl, hb⟩
              have hz : w.heap.size < w2.heap.size := by (have := hb.size; simp at this; omega)
              have hblk := (hb.block w.heap.size (by simp)).trans (heap_alloc_new w _)
              obtain ⟨c0, c1, c2, c3, c4, c5⟩ := ev_cells (e := ⟨k, cy, ct, a, b, v⟩) hblk
              simp only at c0 c1 c2 c3 c4 c5
              have hbel : Below w.heap.size w w2 := ((Below.refl _ w).alloc (Nat.le_refl _) _).trans (hb.mono (by simp))
              clear hb hblk hi hs
              go_wp2_with (first | (go_at_call 78; (with_reducible refine (h1 _).mono ?_); rintro e w3 ⟨rfl, rfl⟩) | (go_at_call 78; (with_reducible refine (h2 _).mono ?_); rintro e w3 ⟨rfl, rfl⟩) | (go_at_call 78; (with_reducible refine (h3 _).mono ?_); rintro e w3 ⟨rfl, rfl⟩))
              go_ret
              exact ⟨rfl, hbel.alloc (by omega) _⟩
            · have d5 : (k == 5) = true := eqb_t h5
              have dab : ((a : Int) == b) = false := by rw [beq_eq_false_iff_ne]; omega
              have dhab : decide (a = b) = false := by simp [hab]
              rw [dhab, Bool.and_false]
              clear h5 hab dhab
              go_enter Try.func56, Try.ntmps56
              go_wp2_with fail
              refine (hi _).mono ?_
              rintro e w1 ⟨rfl, rfl⟩
              go_wp2_with fail
              refine (hs _).mono ?_
              rintro e w2 ⟨rfl, hb⟩
              have hz : w.heap.size < w2.heap.size := by (have := hb.size; simp at this; omega)
              have hblk := (hb.block w.heap.size (by simp)).trans (heap_alloc_new w _)
              obtain ⟨c0, c1, c2, c3, c4, c5⟩ := ev_cells (e := ⟨k, cy, ct, a, b, v⟩) hblk
              simp only at c0 c1 c2 c3 c4 c5
              have hbel : Below w.heap.size w w2 := ((Below.refl _ w).alloc (Nat.le_refl _) _).trans (hb.mono (by simp))
              clear hb hblk hi hs
              go_wp2_with (first | (go_at_call 78; (with_reducible refine (h1 _).mono ?_); rintro e w3 ⟨rfl, rfl⟩) | (go_at_call 78; (with_reducible refine (h2 _).mono ?_); rintro e w3 ⟨rfl, rfl⟩) | (go_at_call 78; (with_reducible refine (h3 _).mono ?_); rintro e w3 ⟨rfl, rfl⟩))
              go_ret
              exact ⟨rfl, hbel.alloc (by omega) _⟩
          · have d5 : (k == 5) = false := eqb_f h5
            have dh5 : decide (k = 5) = false := by simp [h5]
            rw [dh5, Bool.false_and]
            clear h5 dh5
            go_enter Try.func56, Try.ntmps56
            go_wp2_with fail
            refine (hi _).mono ?_
            rintro e w1 ⟨rfl, rfl⟩
            go_wp2_with fail
            refine (hs _).mono ?_
            rintro e w2 ⟨rfl, hb⟩
            have hz : w.heap.size < w2.heap.size := by (have := hb.size; simp at this; omega)
            have hblk := (hb.block w.heap.size (by simp)).trans (heap_alloc_new w _)
            obtain ⟨c0, c1, c2, c3, c4, c5⟩ := ev_cells (e := ⟨k, cy, ct, a, b, v⟩) hblk
            simp only at c0 c1 c2 c3 c4 c5
            have hbel : Below w.heap.size w w2 := ((Below.refl _ w).alloc (Nat.le_refl _) _).trans (hb.mono (by simp))
            clear hb hblk hi hs
            go_wp2_with (first | (go_at_call 78; (with_reducible refine (h1 _).mono ?_); rintro e w3 ⟨rfl, rfl⟩) | (go_at_call 78; (with_reducible refine (h2 _).mono ?_); rintro e w3 ⟨rfl, rfl⟩) | (go_at_call 78; (with_reducible refine (h3 _).mono ?_); rintro e w3 ⟨rfl, rfl⟩))
            go_ret
            exact ⟨rfl, hbel.alloc (by omega) _⟩
end Go.Proofs.Ytbfipgeoecbpaaa
/- Contract of event.Name. No condition but those that each names. -/
namespace Go.Proofs.Ytbfipgeoecbpaaa
open Go.RowKit
set_option maxRecDepth 20000
/-- The kinds' names. -/
def nmL : List ByteArray := [⟨#[]⟩, ⟨#[105, 114, 113]⟩, ⟨#[100, 101, 118]⟩, ⟨#[101, 110, 116, 101, 114]⟩, ⟨#[101, 120, 105, 116]⟩, ⟨#[115, 119, 105, 116, 99, 104]⟩, ⟨#[114, 101, 108, 101, 97, 115, 101]⟩, ⟨#[108, 97, 116, 101]⟩, ⟨#[101, 110, 100]⟩, ⟨#[98, 108, 111, 99, 107]⟩, ⟨#[119, 97, 107, 101]⟩, ⟨#[108, 101, 118, 101, 108]⟩, ⟨#[108, 111, 99, 107]⟩, ⟨#[117, 110, 108, 111, 99, 107]⟩, ⟨#[112, 111, 115, 116]⟩, ⟨#[116, 97, 107, 101]⟩, ⟨#[115, 101, 110, 100]⟩, ⟨#[114, 101, 99, 118]⟩, ⟨#[116, 105, 109, 101, 114]⟩, ⟨#[97, 114, 109]⟩, ⟨#[111, 117, 116]⟩, ⟨#[102, 97, 117, 108, 116]⟩, ⟨#[104, 97, 108, 116]⟩, ⟨#[114, 101, 102, 117, 115, 101]⟩, ⟨#[99, 108, 111, 115, 101]⟩]
def nm (k : Int) : ByteArray := if isK k = true then nmL.getD k.toNat ⟨#[]⟩ else ⟨#[]⟩
theorem nm_no {k : Int} (h : isK k = false) : nm k = ⟨#[]⟩ := by unfold nm; rw [h]; rfl
theorem nm_full {k : Int} (h : isK k = true) : (nm k).toList.isEmpty = false := by
  have h1 : 1 ≤ k ∧ k ≤ 24 := by simpa [isK] using h
  rcases k_cases h1.1 h1.2 with rfl | rfl | rfl | rfl | rfl | rfl | rfl | rfl | rfl | rfl | rfl | rfl | rfl | rfl | rfl | rfl | rfl | rfl | rfl | rfl | rfl | rfl | rfl | rfl <;> decide +kernel
section
variable {P : Program} {w : World} {ops : Array Oper} {o : Oper} {a : Act} {Q : Exit → Act → World → Prop}
theorem list_alloc {rest : List Oper} (hg : o.guard = none) (t : TypeId) (ho : o.op = .alloc t) (z : Value) (hz : ∀ w, (zeroValue t).run P w = .ok z w)
    (hK : wpList P ops Q rest (a.put o.dst (.pointer (some ⟨w.heap.size, 0, none⟩))) (w.alloc (.cells z.cells t))) : wpList P ops Q (o :: rest) a w := by
  refine wpList_plain hg fun K hK' => ?_
  unfold Oper.wp
  simp [execOp, ho, hz, Result.andThen, go_sem]
  exact hK' _ _ hK
end
theorem zero_names : (Try.prog.info? 218).map (fun i => (i.zero, i.size)) = some (some (.agg #[.string ⟨#[]⟩, .string ⟨#[]⟩, .string ⟨#[]⟩, .string ⟨#[]⟩, .string ⟨#[]⟩, .string ⟨#[]⟩, .string ⟨#[]⟩, .string ⟨#[]⟩, .string ⟨#[]⟩, .string ⟨#[]⟩, .string ⟨#[]⟩, .string ⟨#[]⟩, .string ⟨#[]⟩, .string ⟨#[]⟩, .string ⟨#[]⟩, .string ⟨#[]⟩, .string ⟨#[]⟩, .string ⟨#[]⟩, .string ⟨#[]⟩, .string ⟨#[]⟩, .string ⟨#[]⟩, .string ⟨#[]⟩, .string ⟨#[]⟩, .string ⟨#[]⟩, .string ⟨#[]⟩]), 25) := by kernel_rfl
theorem nm_at : ∀ i, i < 25 → (#[.string ⟨#[]⟩, .string ⟨#[105, 114, 113]⟩, .string ⟨#[100, 101, 118]⟩, .string ⟨#[101, 110, 116, 101, 114]⟩, .string ⟨#[101, 120, 105, 116]⟩, .string ⟨#[115, 119, 105, 116, 99, 104]⟩, .string ⟨#[114, 101, 108, 101, 97, 115, 101]⟩, .string ⟨#[108, 97, 116, 101]⟩, .string ⟨#[101, 110, 100]⟩, .string ⟨#[98, 108, 111, 99, 107]⟩, .string ⟨#[119, 97, 107, 101]⟩, .string ⟨#[108, 101, 118, 101, 108]⟩, .string ⟨#[108, 111, 99, 107]⟩, .string ⟨#[117, 110, 108, 111, 99, 107]⟩, .string ⟨#[112, 111, 115, 116]⟩, .string ⟨#[116, 97, 107, 101]⟩, .string ⟨#[115, 101, 110, 100]⟩, .string ⟨#[114, 101, 99, 118]⟩, .string ⟨#[116, 105, 109, 101, 114]⟩, .string ⟨#[97, 114, 109]⟩, .string ⟨#[111, 117, 116]⟩, .string ⟨#[102, 97, 117, 108, 116]⟩, .string ⟨#[104, 97, 108, 116]⟩, .string ⟨#[114, 101, 102, 117, 115, 101]⟩, .string ⟨#[99, 108, 111, 115, 101]⟩] : Array Value)[i]? = some (.string (nmL.getD i ⟨#[]⟩))
  | 0, _ => rfl
  | 1, _ => rfl
  | 2, _ => rfl
  | 3, _ => rfl
  | 4, _ => rfl
  | 5, _ => rfl
  | 6, _ => rfl
  | 7, _ => rfl
  | 8, _ => rfl
  | 9, _ => rfl
  | 10, _ => rfl
  | 11, _ => rfl
  | 12, _ => rfl
  | 13, _ => rfl
  | 14, _ => rfl
  | 15, _ => rfl
  | 16, _ => rfl
  | 17, _ => rfl
  | 18, _ => rfl
  | 19, _ => rfl
  | 20, _ => rfl
  | 21, _ => rfl
  | 22, _ => rfl
  | 23, _ => rfl
  | 24, _ => rfl
  | n + 25, h => absurd h (by omega)
set_option maxHeartbeats 1000000 in
theorem name_any (k : Int) (w : World) : Calls Try.prog 135 #[.int .i64 k] w fun e w' => e = .returned (.string (nm k)) ∧ Below w.heap.size w w' := by
  have hi := fun x => is_any k x
  have hB := (Below.refl w.heap.size w).alloc (Nat.le_refl _) (.cells #[.string ⟨#[]⟩, .string ⟨#[105, 114, 113]⟩, .string ⟨#[100, 101, 118]⟩, .string ⟨#[101, 110, 116, 101, 114]⟩, .string ⟨#[101, 120, 105, 116]⟩, .string ⟨#[115, 119, 105, 116, 99, 104]⟩, .string ⟨#[114, 101, 108, 101, 97, 115, 101]⟩, .string ⟨#[108, 97, 116, 101]⟩, .string ⟨#[101, 110, 100]⟩, .string ⟨#[98, 108, 111, 99, 107]⟩, .string ⟨#[119, 97, 107, 101]⟩, .string ⟨#[108, 101, 118, 101, 108]⟩, .string ⟨#[108, 111, 99, 107]⟩, .string ⟨#[117, 110, 108, 111, 99, 107]⟩, .string ⟨#[112, 111, 115, 116]⟩, .string ⟨#[116, 97, 107, 101]⟩, .string ⟨#[115, 101, 110, 100]⟩, .string ⟨#[114, 101, 99, 118]⟩, .string ⟨#[116, 105, 109, 101, 114]⟩, .string ⟨#[97, 114, 109]⟩, .string ⟨#[111, 117, 116]⟩, .string ⟨#[102, 97, 117, 108, 116]⟩, .string ⟨#[104, 97, 108, 116]⟩, .string ⟨#[114, 101, 102, 117, 115, 101]⟩, .string ⟨#[99, 108, 111, 115, 101]⟩] 218)
  cases hk : isK k
  · rw [nm_no hk]
    rw [hk] at hi
    clear hk
    go_enter Try.func135, Try.ntmps135
    go_upto_region 1 with fail
    refine wp_region_list ?_
    refine wpList_build (by rfl) 218 _ (by rfl) (by kernel_rfl) ?_
    generalize hV : Option.getD (Program.built _ _ _) _ = C
    have hC : C = #[.string ⟨#[]⟩, .string ⟨#[105, 114, 113]⟩, .string ⟨#[100, 101, 118]⟩, .string ⟨#[101, 110, 116, 101, 114]⟩, .string ⟨#[101, 120, 105, 116]⟩, .string ⟨#[115, 119, 105, 116, 99, 104]⟩, .string ⟨#[114, 101, 108, 101, 97, 115, 101]⟩, .string ⟨#[108, 97, 116, 101]⟩, .string ⟨#[101, 110, 100]⟩, .string ⟨#[98, 108, 111, 99, 107]⟩, .string ⟨#[119, 97, 107, 101]⟩, .string ⟨#[108, 101, 118, 101, 108]⟩, .string ⟨#[108, 111, 99, 107]⟩, .string ⟨#[117, 110, 108, 111, 99, 107]⟩, .string ⟨#[112, 111, 115, 116]⟩, .string ⟨#[116, 97, 107, 101]⟩, .string ⟨#[115, 101, 110, 100]⟩, .string ⟨#[114, 101, 99, 118]⟩, .string ⟨#[116, 105, 109, 101, 114]⟩, .string ⟨#[97, 114, 109]⟩, .string ⟨#[111, 117, 116]⟩, .string ⟨#[102, 97, 117, 108, 116]⟩, .string ⟨#[104, 97, 108, 116]⟩, .string ⟨#[114, 101, 102, 117, 115, 101]⟩, .string ⟨#[99, 108, 111, 115, 101]⟩] := by rw [← hV]; kernel_rfl
    clear hV
    subst hC
    refine list_alloc (by rfl) 218 (by rfl) (.agg #[.string ⟨#[]⟩, .string ⟨#[]⟩, .string ⟨#[]⟩, .string ⟨#[]⟩, .string ⟨#[]⟩, .string ⟨#[]⟩, .string ⟨#[]⟩, .string ⟨#[]⟩, .string ⟨#[]⟩, .string ⟨#[]⟩, .string ⟨#[]⟩, .string ⟨#[]⟩, .string ⟨#[]⟩, .string ⟨#[]⟩, .string ⟨#[]⟩, .string ⟨#[]⟩, .string ⟨#[]⟩, .string ⟨#[]⟩, .string ⟨#[]⟩, .string ⟨#[]⟩, .string ⟨#[]⟩, .string ⟨#[]⟩, .string ⟨#[]⟩, .string ⟨#[]⟩, .string ⟨#[]⟩]) (zero_of_info zero_names).1 ?_
    refine wpList_store_row (by rfl) 218 (.tmp 3) (.tmp 4) (by rfl) w.heap.size #[.string ⟨#[]⟩, .string ⟨#[105, 114, 113]⟩, .string ⟨#[100, 101, 118]⟩, .string ⟨#[101, 110, 116, 101, 114]⟩, .string ⟨#[101, 120, 105, 116]⟩, .string ⟨#[115, 119, 105, 116, 99, 104]⟩, .string ⟨#[114, 101, 108, 101, 97, 115, 101]⟩, .string ⟨#[108, 97, 116, 101]⟩, .string ⟨#[101, 110, 100]⟩, .string ⟨#[98, 108, 111, 99, 107]⟩, .string ⟨#[119, 97, 107, 101]⟩, .string ⟨#[108, 101, 118, 101, 108]⟩, .string ⟨#[108, 111, 99, 107]⟩, .string ⟨#[117, 110, 108, 111, 99, 107]⟩, .string ⟨#[112, 111, 115, 116]⟩, .string ⟨#[116, 97, 107, 101]⟩, .string ⟨#[115, 101, 110, 100]⟩, .string ⟨#[114, 101, 99, 118]⟩, .string ⟨#[116, 105, 109, 101, 114]⟩, .string ⟨#[97, 114, 109]⟩, .string ⟨#[111, 117, 116]⟩, .string ⟨#[102, 97, 117, 108, 116]⟩, .string ⟨#[104, 97, 108, 116]⟩, .string ⟨#[114, 101, 102, 117, 115, 101]⟩, .string ⟨#[99, 108, 111, 115, 101]⟩] (by rfl) (by rfl) 218 _ (heap_alloc_new w _) (by kernel_rfl) (by rfl) (by kernel_rfl) ?_
    rw [World.setRow_alloc_new]
    refine wpList_nil ?_
    generalize (Value.agg #[.string ⟨#[]⟩, .string ⟨#[105, 114, 113]⟩, .string ⟨#[100, 101, 118]⟩, .string ⟨#[101, 110, 116, 101, 114]⟩, .string ⟨#[101, 120, 105, 116]⟩, .string ⟨#[115, 119, 105, 116, 99, 104]⟩, .string ⟨#[114, 101, 108, 101, 97, 115, 101]⟩, .string ⟨#[108, 97, 116, 101]⟩, .string ⟨#[101, 110, 100]⟩, .string ⟨#[98, 108, 111, 99, 107]⟩, .string ⟨#[119, 97, 107, 101]⟩, .string ⟨#[108, 101, 118, 101, 108]⟩, .string ⟨#[108, 111, 99, 107]⟩, .string ⟨#[117, 110, 108, 111, 99, 107]⟩, .string ⟨#[112, 111, 115, 116]⟩, .string ⟨#[116, 97, 107, 101]⟩, .string ⟨#[115, 101, 110, 100]⟩, .string ⟨#[114, 101, 99, 118]⟩, .string ⟨#[116, 105, 109, 101, 114]⟩, .string ⟨#[97, 114, 109]⟩, .string ⟨#[111, 117, 116]⟩, .string ⟨#[102, 97, 117, 108, 116]⟩, .string ⟨#[104, 97, 108, 116]⟩, .string ⟨#[114, 101, 102, 117, 115, 101]⟩, .string ⟨#[99, 108, 111, 115, 101]⟩]) = V
    generalize w.alloc (.cells #[.string ⟨#[]⟩, .string ⟨#[105, 114, 113]⟩, .string ⟨#[100, 101, 118]⟩, .string ⟨#[101, 110, 116, 101, 114]⟩, .string ⟨#[101, 120, 105, 116]⟩, .string ⟨#[115, 119, 105, 116, 99, 104]⟩, .string ⟨#[114, 101, 108, 101, 97, 115, 101]⟩, .string ⟨#[108, 97, 116, 101]⟩, .string ⟨#[101, 110, 100]⟩, .string ⟨#[98, 108, 111, 99, 107]⟩, .string ⟨#[119, 97, 107, 101]⟩, .string ⟨#[108, 101, 118, 101, 108]⟩, .string ⟨#[108, 111, 99, 107]⟩, .string ⟨#[117, 110, 108, 111, 99, 107]⟩, .string ⟨#[112, 111, 115, 116]⟩, .string ⟨#[116, 97, 107, 101]⟩, .string ⟨#[115, 101, 110, 100]⟩, .string ⟨#[114, 101, 99, 118]⟩, .string ⟨#[116, 105, 109, 101, 114]⟩, .string ⟨#[97, 114, 109]⟩, .string ⟨#[111, 117, 116]⟩, .string ⟨#[102, 97, 117, 108, 116]⟩, .string ⟨#[104, 97, 108, 116]⟩, .string ⟨#[114, 101, 102, 117, 115, 101]⟩, .string ⟨#[99, 108, 111, 115, 101]⟩] 218) = W at hB ⊢
    go_wp2_with fail
    refine (hi _).mono ?_
    rintro e w1 ⟨rfl, rfl⟩
    go_wp2_with fail
    go_ret
    exact ⟨rfl, hB⟩
  · rw [hk] at hi
    obtain ⟨m, rfl⟩ : ∃ m : Nat, k = m := ⟨k.toNat, by have : 1 ≤ k ∧ k ≤ 24 := by simpa [isK] using hk
                                                       omega⟩
    have h1 : 1 ≤ (m : Int) ∧ (m : Int) ≤ 24 := by simpa [isK] using hk
    have m1 : m < 25 := by omega
    have m2 : (m : Int) < 25 := by omega
    have hcell : (w.alloc (.cells #[.string ⟨#[]⟩, .string ⟨#[105, 114, 113]⟩, .string ⟨#[100, 101, 118]⟩, .string ⟨#[101, 110, 116, 101, 114]⟩, .string ⟨#[101, 120, 105, 116]⟩, .string ⟨#[115, 119, 105, 116, 99, 104]⟩, .string ⟨#[114, 101, 108, 101, 97, 115, 101]⟩, .string ⟨#[108, 97, 116, 101]⟩, .string ⟨#[101, 110, 100]⟩, .string ⟨#[98, 108, 111, 99, 107]⟩, .string ⟨#[119, 97, 107, 101]⟩, .string ⟨#[108, 101, 118, 101, 108]⟩, .string ⟨#[108, 111, 99, 107]⟩, .string ⟨#[117, 110, 108, 111, 99, 107]⟩, .string ⟨#[112, 111, 115, 116]⟩, .string ⟨#[116, 97, 107, 101]⟩, .string ⟨#[115, 101, 110, 100]⟩, .string ⟨#[114, 101, 99, 118]⟩, .string ⟨#[116, 105, 109, 101, 114]⟩, .string ⟨#[97, 114, 109]⟩, .string ⟨#[111, 117, 116]⟩, .string ⟨#[102, 97, 117, 108, 116]⟩, .string ⟨#[104, 97, 108, 116]⟩, .string ⟨#[114, 101, 102, 117, 115, 101]⟩, .string ⟨#[99, 108, 111, 115, 101]⟩] 218)).cell? ⟨w.heap.size, m, none⟩ = some (.string (nm m)) := by
      rw [cell_blk (heap_alloc_new w _), nm_at m m1]
      unfold nm
      rw [if_pos hk]
      simp
    clear h1 hk
    generalize nm (m : Int) = X at hcell ⊢
    go_enter Try.func135, Try.ntmps135
    go_upto_region 1 with fail
    refine wp_region_list ?_
    refine wpList_build (by rfl) 218 _ (by rfl) (by kernel_rfl) ?_
    generalize hV : Option.getD (Program.built _ _ _) _ = C
    have hC : C = #[.string ⟨#[]⟩, .string ⟨#[105, 114, 113]⟩, .string ⟨#[100, 101, 118]⟩, .string ⟨#[101, 110, 116, 101, 114]⟩, .string ⟨#[101, 120, 105, 116]⟩, .string ⟨#[115, 119, 105, 116, 99, 104]⟩, .string ⟨#[114, 101, 108, 101, 97, 115, 101]⟩, .string ⟨#[108, 97, 116, 101]⟩, .string ⟨#[101, 110, 100]⟩, .string ⟨#[98, 108, 111, 99, 107]⟩, .string ⟨#[119, 97, 107, 101]⟩, .string ⟨#[108, 101, 118, 101, 108]⟩, .string ⟨#[108, 111, 99, 107]⟩, .string ⟨#[117, 110, 108, 111, 99, 107]⟩, .string ⟨#[112, 111, 115, 116]⟩, .string ⟨#[116, 97, 107, 101]⟩, .string ⟨#[115, 101, 110, 100]⟩, .string ⟨#[114, 101, 99, 118]⟩, .string ⟨#[116, 105, 109, 101, 114]⟩, .string ⟨#[97, 114, 109]⟩, .string ⟨#[111, 117, 116]⟩, .string ⟨#[102, 97, 117, 108, 116]⟩, .string ⟨#[104, 97, 108, 116]⟩, .string ⟨#[114, 101, 102, 117, 115, 101]⟩, .string ⟨#[99, 108, 111, 115, 101]⟩] := by rw [← hV]; kernel_rfl
    clear hV
    subst hC
    refine list_alloc (by rfl) 218 (by rfl) (.agg #[.string ⟨#[]⟩, .string ⟨#[]⟩, .string ⟨#[]⟩, .string ⟨#[]⟩, .string ⟨#[]⟩, .string ⟨#[]⟩, .string ⟨#[]⟩, .string ⟨#[]⟩, .string ⟨#[]⟩, .string ⟨#[]⟩, .string ⟨#[]⟩, .string ⟨#[]⟩, .string ⟨#[]⟩, .string ⟨#[]⟩, .string ⟨#[]⟩, .string ⟨#[]⟩, .string ⟨#[]⟩, .string ⟨#[]⟩, .string ⟨#[]⟩, .string ⟨#[]⟩, .string ⟨#[]⟩, .string ⟨#[]⟩, .string ⟨#[]⟩, .string ⟨#[]⟩, .string ⟨#[]⟩]) (zero_of_info zero_names).1 ?_
    refine wpList_store_row (by rfl) 218 (.tmp 3) (.tmp 4) (by rfl) w.heap.size #[.string ⟨#[]⟩, .string ⟨#[105, 114, 113]⟩, .string ⟨#[100, 101, 118]⟩, .string ⟨#[101, 110, 116, 101, 114]⟩, .string ⟨#[101, 120, 105, 116]⟩, .string ⟨#[115, 119, 105, 116, 99, 104]⟩, .string ⟨#[114, 101, 108, 101, 97, 115, 101]⟩, .string ⟨#[108, 97, 116, 101]⟩, .string ⟨#[101, 110, 100]⟩, .string ⟨#[98, 108, 111, 99, 107]⟩, .string ⟨#[119, 97, 107, 101]⟩, .string ⟨#[108, 101, 118, 101, 108]⟩, .string ⟨#[108, 111, 99, 107]⟩, .string ⟨#[117, 110, 108, 111, 99, 107]⟩, .string ⟨#[112, 111, 115, 116]⟩, .string ⟨#[116, 97, 107, 101]⟩, .string ⟨#[115, 101, 110, 100]⟩, .string ⟨#[114, 101, 99, 118]⟩, .string ⟨#[116, 105, 109, 101, 114]⟩, .string ⟨#[97, 114, 109]⟩, .string ⟨#[111, 117, 116]⟩, .string ⟨#[102, 97, 117, 108, 116]⟩, .string ⟨#[104, 97, 108, 116]⟩, .string ⟨#[114, 101, 102, 117, 115, 101]⟩, .string ⟨#[99, 108, 111, 115, 101]⟩] (by rfl) (by rfl) 218 _ (heap_alloc_new w _) (by kernel_rfl) (by rfl) (by kernel_rfl) ?_
    rw [World.setRow_alloc_new]
    refine wpList_nil ?_
    generalize (Value.agg #[.string ⟨#[]⟩, .string ⟨#[105, 114, 113]⟩, .string ⟨#[100, 101, 118]⟩, .string ⟨#[101, 110, 116, 101, 114]⟩, .string ⟨#[101, 120, 105, 116]⟩, .string ⟨#[115, 119, 105, 116, 99, 104]⟩, .string ⟨#[114, 101, 108, 101, 97, 115, 101]⟩, .string ⟨#[108, 97, 116, 101]⟩, .string ⟨#[101, 110, 100]⟩, .string ⟨#[98, 108, 111, 99, 107]⟩, .string ⟨#[119, 97, 107, 101]⟩, .string ⟨#[108, 101, 118, 101, 108]⟩, .string ⟨#[108, 111, 99, 107]⟩, .string ⟨#[117, 110, 108, 111, 99, 107]⟩, .string ⟨#[112, 111, 115, 116]⟩, .string ⟨#[116, 97, 107, 101]⟩, .string ⟨#[115, 101, 110, 100]⟩, .string ⟨#[114, 101, 99, 118]⟩, .string ⟨#[116, 105, 109, 101, 114]⟩, .string ⟨#[97, 114, 109]⟩, .string ⟨#[111, 117, 116]⟩, .string ⟨#[102, 97, 117, 108, 116]⟩, .string ⟨#[104, 97, 108, 116]⟩, .string ⟨#[114, 101, 102, 117, 115, 101]⟩, .string ⟨#[99, 108, 111, 115, 101]⟩]) = V
    generalize w.alloc (.cells #[.string ⟨#[]⟩, .string ⟨#[105, 114, 113]⟩, .string ⟨#[100, 101, 118]⟩, .string ⟨#[101, 110, 116, 101, 114]⟩, .string ⟨#[101, 120, 105, 116]⟩, .string ⟨#[115, 119, 105, 116, 99, 104]⟩, .string ⟨#[114, 101, 108, 101, 97, 115, 101]⟩, .string ⟨#[108, 97, 116, 101]⟩, .string ⟨#[101, 110, 100]⟩, .string ⟨#[98, 108, 111, 99, 107]⟩, .string ⟨#[119, 97, 107, 101]⟩, .string ⟨#[108, 101, 118, 101, 108]⟩, .string ⟨#[108, 111, 99, 107]⟩, .string ⟨#[117, 110, 108, 111, 99, 107]⟩, .string ⟨#[112, 111, 115, 116]⟩, .string ⟨#[116, 97, 107, 101]⟩, .string ⟨#[115, 101, 110, 100]⟩, .string ⟨#[114, 101, 99, 118]⟩, .string ⟨#[116, 105, 109, 101, 114]⟩, .string ⟨#[97, 114, 109]⟩, .string ⟨#[111, 117, 116]⟩, .string ⟨#[102, 97, 117, 108, 116]⟩, .string ⟨#[104, 97, 108, 116]⟩, .string ⟨#[114, 101, 102, 117, 115, 101]⟩, .string ⟨#[99, 108, 111, 115, 101]⟩] 218) = W at hcell hB ⊢
    generalize w.heap.size = g at hcell ⊢
    go_wp2_with fail
    refine (hi _).mono ?_
    rintro e w1 ⟨rfl, rfl⟩
    go_wp2_with fail
    go_ret
    exact ⟨rfl, hB⟩
end Go.Proofs.Ytbfipgeoecbpaaa
/- Contracts of the reference of layer 5 (Has, Check). No condition but those that each names. -/
namespace Go.Proofs.Ytbfipgeoecbpaaa
open Go.RowKit
set_option maxRecDepth 20000
theorem in_any (n lo hi : Int) (w : World) : Calls Try.prog 105 #[.int .u32 n, .int .u32 lo, .int .u32 hi] w fun e w' => e = .returned (.bool (decide (lo ≤ n ∧ n ≤ hi))) ∧ w = w' := by
  go_enter Try.func105, Try.ntmps105
  go_wp2_with fail
  all_goals go_ret
  all_goals exact ⟨ret_bool (by rw [Bool.eq_iff_iff]; simp <;> omega), rfl⟩
set_option maxHeartbeats 2000000 in
theorem rhas_any (k : Int) (w : World) : Calls Try.prog 86 #[.int .i64 k] w fun e w' => e = .returned (.agg #[.bool (hasA k), .bool (hasB k), .bool (hasV k)]) ∧ Below w.heap.size w w' := by
  go_enter Try.func86, Try.ntmps86
  go_wp2_with fail
  all_goals first
    | (refine leaf_k (n := 2) (k := k) ?_ ?_; assumption; rintro rfl; exact bodyPost_ret (v := .agg #[.bool true, .bool true, .bool true]) (by simp [results, Try.results86, go_sem]) rfl ⟨rfl, (Below.refl _ _).alloc (Nat.le_refl _) _⟩)
    | (refine leaf_k (n := 14) (k := k) ?_ ?_; assumption; rintro rfl; exact bodyPost_ret (v := .agg #[.bool true, .bool true, .bool true]) (by simp [results, Try.results86, go_sem]) rfl ⟨rfl, (Below.refl _ _).alloc (Nat.le_refl _) _⟩)
    | (refine leaf_k (n := 15) (k := k) ?_ ?_; assumption; rintro rfl; exact bodyPost_ret (v := .agg #[.bool true, .bool true, .bool true]) (by simp [results, Try.results86, go_sem]) rfl ⟨rfl, (Below.refl _ _).alloc (Nat.le_refl _) _⟩)
    | (refine leaf_k (n := 16) (k := k) ?_ ?_; assumption; rintro rfl; exact bodyPost_ret (v := .agg #[.bool true, .bool true, .bool true]) (by simp [results, Try.results86, go_sem]) rfl ⟨rfl, (Below.refl _ _).alloc (Nat.le_refl _) _⟩)
    | (refine leaf_k (n := 17) (k := k) ?_ ?_; assumption; rintro rfl; exact bodyPost_ret (v := .agg #[.bool true, .bool true, .bool true]) (by simp [results, Try.results86, go_sem]) rfl ⟨rfl, (Below.refl _ _).alloc (Nat.le_refl _) _⟩)
    | (refine leaf_k (n := 19) (k := k) ?_ ?_; assumption; rintro rfl; exact bodyPost_ret (v := .agg #[.bool true, .bool true, .bool true]) (by simp [results, Try.results86, go_sem]) rfl ⟨rfl, (Below.refl _ _).alloc (Nat.le_refl _) _⟩)
    | (refine leaf_k (n := 20) (k := k) ?_ ?_; assumption; rintro rfl; exact bodyPost_ret (v := .agg #[.bool true, .bool true, .bool true]) (by simp [results, Try.results86, go_sem]) rfl ⟨rfl, (Below.refl _ _).alloc (Nat.le_refl _) _⟩)
    | (refine leaf_k (n := 23) (k := k) ?_ ?_; assumption; rintro rfl; exact bodyPost_ret (v := .agg #[.bool true, .bool true, .bool true]) (by simp [results, Try.results86, go_sem]) rfl ⟨rfl, (Below.refl _ _).alloc (Nat.le_refl _) _⟩)
    | (refine leaf_k (n := 1) (k := k) ?_ ?_; assumption; rintro rfl; exact bodyPost_ret (v := .agg #[.bool true, .bool true, .bool false]) (by simp [results, Try.results86, go_sem]) rfl ⟨rfl, (Below.refl _ _).alloc (Nat.le_refl _) _⟩)
    | (refine leaf_k (n := 5) (k := k) ?_ ?_; assumption; rintro rfl; exact bodyPost_ret (v := .agg #[.bool true, .bool true, .bool false]) (by simp [results, Try.results86, go_sem]) rfl ⟨rfl, (Below.refl _ _).alloc (Nat.le_refl _) _⟩)
    | (refine leaf_k (n := 9) (k := k) ?_ ?_; assumption; rintro rfl; exact bodyPost_ret (v := .agg #[.bool true, .bool true, .bool false]) (by simp [results, Try.results86, go_sem]) rfl ⟨rfl, (Below.refl _ _).alloc (Nat.le_refl _) _⟩)
    | (refine leaf_k (n := 10) (k := k) ?_ ?_; assumption; rintro rfl; exact bodyPost_ret (v := .agg #[.bool true, .bool true, .bool false]) (by simp [results, Try.results86, go_sem]) rfl ⟨rfl, (Below.refl _ _).alloc (Nat.le_refl _) _⟩)
    | (refine leaf_k (n := 11) (k := k) ?_ ?_; assumption; rintro rfl; exact bodyPost_ret (v := .agg #[.bool true, .bool true, .bool false]) (by simp [results, Try.results86, go_sem]) rfl ⟨rfl, (Below.refl _ _).alloc (Nat.le_refl _) _⟩)
    | (refine leaf_k (n := 12) (k := k) ?_ ?_; assumption; rintro rfl; exact bodyPost_ret (v := .agg #[.bool true, .bool true, .bool false]) (by simp [results, Try.results86, go_sem]) rfl ⟨rfl, (Below.refl _ _).alloc (Nat.le_refl _) _⟩)
    | (refine leaf_k (n := 13) (k := k) ?_ ?_; assumption; rintro rfl; exact bodyPost_ret (v := .agg #[.bool true, .bool true, .bool false]) (by simp [results, Try.results86, go_sem]) rfl ⟨rfl, (Below.refl _ _).alloc (Nat.le_refl _) _⟩)
    | (refine leaf_k (n := 21) (k := k) ?_ ?_; assumption; rintro rfl; exact bodyPost_ret (v := .agg #[.bool true, .bool true, .bool false]) (by simp [results, Try.results86, go_sem]) rfl ⟨rfl, (Below.refl _ _).alloc (Nat.le_refl _) _⟩)
    | (refine leaf_k (n := 6) (k := k) ?_ ?_; assumption; rintro rfl; exact bodyPost_ret (v := .agg #[.bool true, .bool false, .bool true]) (by simp [results, Try.results86, go_sem]) rfl ⟨rfl, (Below.refl _ _).alloc (Nat.le_refl _) _⟩)
    | (refine leaf_k (n := 7) (k := k) ?_ ?_; assumption; rintro rfl; exact bodyPost_ret (v := .agg #[.bool true, .bool false, .bool true]) (by simp [results, Try.results86, go_sem]) rfl ⟨rfl, (Below.refl _ _).alloc (Nat.le_refl _) _⟩)
    | (refine leaf_k (n := 8) (k := k) ?_ ?_; assumption; rintro rfl; exact bodyPost_ret (v := .agg #[.bool true, .bool false, .bool true]) (by simp [results, Try.results86, go_sem]) rfl ⟨rfl, (Below.refl _ _).alloc (Nat.le_refl _) _⟩)
    | (refine leaf_k (n := 3) (k := k) ?_ ?_; assumption; rintro rfl; exact bodyPost_ret (v := .agg #[.bool true, .bool false, .bool false]) (by simp [results, Try.results86, go_sem]) rfl ⟨rfl, (Below.refl _ _).alloc (Nat.le_refl _) _⟩)
    | (refine leaf_k (n := 4) (k := k) ?_ ?_; assumption; rintro rfl; exact bodyPost_ret (v := .agg #[.bool true, .bool false, .bool false]) (by simp [results, Try.results86, go_sem]) rfl ⟨rfl, (Below.refl _ _).alloc (Nat.le_refl _) _⟩)
    | (refine leaf_k (n := 18) (k := k) ?_ ?_; assumption; rintro rfl; exact bodyPost_ret (v := .agg #[.bool true, .bool false, .bool false]) (by simp [results, Try.results86, go_sem]) rfl ⟨rfl, (Below.refl _ _).alloc (Nat.le_refl _) _⟩)
    | (refine leaf_k (n := 22) (k := k) ?_ ?_; assumption; rintro rfl; exact bodyPost_ret (v := .agg #[.bool true, .bool false, .bool false]) (by simp [results, Try.results86, go_sem]) rfl ⟨rfl, (Below.refl _ _).alloc (Nat.le_refl _) _⟩)
    | (refine leaf_n (n := 2) (k := k) ?_ ?_; assumption; intro hn2; refine leaf_n (n := 14) (k := k) ?_ ?_; assumption; intro hn14; refine leaf_n (n := 15) (k := k) ?_ ?_; assumption; intro hn15; refine leaf_n (n := 16) (k := k) ?_ ?_; assumption; intro hn16; refine leaf_n (n := 17) (k := k) ?_ ?_; assumption; intro hn17; refine leaf_n (n := 19) (k := k) ?_ ?_; assumption; intro hn19; refine leaf_n (n := 20) (k := k) ?_ ?_; assumption; intro hn20; refine leaf_n (n := 23) (k := k) ?_ ?_; assumption; intro hn23; refine leaf_n (n := 1) (k := k) ?_ ?_; assumption; intro hn1; refine leaf_n (n := 5) (k := k) ?_ ?_; assumption; intro hn5; refine leaf_n (n := 9) (k := k) ?_ ?_; assumption; intro hn9; refine leaf_n (n := 10) (k := k) ?_ ?_; assumption; intro hn10; refine leaf_n (n := 11) (k := k) ?_ ?_; assumption; intro hn11; refine leaf_n (n := 12) (k := k) ?_ ?_; assumption; intro hn12; refine leaf_n (n := 13) (k := k) ?_ ?_; assumption; intro hn13; refine leaf_n (n := 21) (k := k) ?_ ?_; assumption; intro hn21; refine leaf_n (n := 6) (k := k) ?_ ?_; assumption; intro hn6; refine leaf_n (n := 7) (k := k) ?_ ?_; assumption; intro hn7; refine leaf_n (n := 8) (k := k) ?_ ?_; assumption; intro hn8; refine leaf_n (n := 3) (k := k) ?_ ?_; assumption; intro hn3; refine leaf_n (n := 4) (k := k) ?_ ?_; assumption; intro hn4; refine leaf_n (n := 18) (k := k) ?_ ?_; assumption; intro hn18; refine leaf_n (n := 22) (k := k) ?_ ?_; assumption; intro hn22; exact bodyPost_ret (v := .agg #[.bool false, .bool false, .bool false]) (by simp [results, Try.results86, go_sem]) rfl ⟨by rw [show hasA k = false from by rw [hasA, sh_no (by omega)]; rfl, show hasB k = false from by rw [hasB, sh_no (by omega)]; rfl, show hasV k = false from by rw [hasV, sh_no (by omega)]; rfl], (Below.refl _ _).alloc (Nat.le_refl _) _⟩)
end Go.Proofs.Ytbfipgeoecbpaaa
/- Contracts of the reference of layer 5 (first, second, third). No condition but those that each names. -/
namespace Go.Proofs.Ytbfipgeoecbpaaa
open Go.RowKit
set_option maxRecDepth 20000
set_option maxHeartbeats 4000000 in
theorem rfirst_any (e : Ev) (h : isK e.k = true) (w : World) : Calls Try.prog 82 #[e.val] w fun x w' => x = .returned (.bool (wth e.a (sh e.k).1)) ∧ Below w.heap.size w w' := by
  obtain ⟨k, cy, ct, a, b, v⟩ := e
  have h1 : 1 ≤ k ∧ k ≤ 24 := by simpa [isK] using h
  clear h
  unfold Ev.val
  simp only
  rcases k_cases h1.1 h1.2 with rfl | rfl | rfl | rfl | rfl | rfl | rfl | rfl | rfl | rfl | rfl | rfl | rfl | rfl | rfl | rfl | rfl | rfl | rfl | rfl | rfl | rfl | rfl | rfl
  all_goals (clear h1; go_enter Try.func82, Try.ntmps82)
  all_goals go_wp2_with (go_at_call 105; (with_reducible refine (in_any _ _ _ _).mono ?_); rintro e w1 ⟨rfl, rfl⟩)
  all_goals go_ret
  all_goals exact ⟨ret_bool (by rw [Bool.eq_iff_iff]; simp [wth, sh] <;> omega), (Below.refl _ _).alloc (Nat.le_refl _) _⟩
end Go.Proofs.Ytbfipgeoecbpaaa
/- Contracts of the reference of layer 5 (first, second, third). No condition but those that each names. -/
namespace Go.Proofs.Ytbfipgeoecbpaaa
open Go.RowKit
set_option maxRecDepth 20000
set_option maxHeartbeats 4000000 in
theorem rsecond_any (e : Ev) (h : isK e.k = true) (w : World) : Calls Try.prog 83 #[e.val] w fun x w' => x = .returned (.bool (wth e.b (sh e.k).2.1 && !(decide (e.k = 5) && decide (e.a = e.b)))) ∧ Below w.heap.size w w' := by
  obtain ⟨k, cy, ct, a, b, v⟩ := e
  have h1 : 1 ≤ k ∧ k ≤ 24 := by simpa [isK] using h
  clear h
  unfold Ev.val
  simp only
  rcases k_cases h1.1 h1.2 with rfl | rfl | rfl | rfl | rfl | rfl | rfl | rfl | rfl | rfl | rfl | rfl | rfl | rfl | rfl | rfl | rfl | rfl | rfl | rfl | rfl | rfl | rfl | rfl
  all_goals (clear h1; go_enter Try.func83, Try.ntmps83)
  all_goals go_wp2_with (go_at_call 105; (with_reducible refine (in_any _ _ _ _).mono ?_); rintro e w1 ⟨rfl, rfl⟩)
  all_goals go_ret
  all_goals exact ⟨ret_bool (by rw [Bool.eq_iff_iff]; simp [wth, sh] <;> omega), (Below.refl _ _).alloc (Nat.le_refl _) _⟩
end Go.Proofs.Ytbfipgeoecbpaaa
/- Contracts of the reference of layer 5 (first, second, third). No condition but those that each names. -/
namespace Go.Proofs.Ytbfipgeoecbpaaa
open Go.RowKit
set_option maxRecDepth 20000
set_option maxHeartbeats 4000000 in
theorem rthird_any (e : Ev) (h : isK e.k = true) (w : World) : Calls Try.prog 84 #[e.val] w fun x w' => x = .returned (.bool (wth e.v (sh e.k).2.2)) ∧ Below w.heap.size w w' := by
  obtain ⟨k, cy, ct, a, b, v⟩ := e
  have h1 : 1 ≤ k ∧ k ≤ 24 := by simpa [isK] using h
  clear h
  unfold Ev.val
  simp only
  rcases k_cases h1.1 h1.2 with rfl | rfl | rfl | rfl | rfl | rfl | rfl | rfl | rfl | rfl | rfl | rfl | rfl | rfl | rfl | rfl | rfl | rfl | rfl | rfl | rfl | rfl | rfl | rfl
  all_goals (clear h1; go_enter Try.func84, Try.ntmps84)
  all_goals go_wp2_with (go_at_call 105; (with_reducible refine (in_any _ _ _ _).mono ?_); rintro e w1 ⟨rfl, rfl⟩)
  all_goals go_ret
  all_goals exact ⟨ret_bool (by rw [Bool.eq_iff_iff]; simp [wth, sh] <;> omega), (Below.refl _ _).alloc (Nat.le_refl _) _⟩
end Go.Proofs.Ytbfipgeoecbpaaa
/- The reference's Check. No condition. -/
namespace Go.Proofs.Ytbfipgeoecbpaaa
open Go.RowKit
set_option maxRecDepth 20000
theorem chk_of (e : Ev) (h : isK e.k = true) : e.chk = if wth e.a (sh e.k).1 = true ∧ (wth e.b (sh e.k).2.1 && !(decide (e.k = 5) && decide (e.a = e.b))) = true ∧ wth e.v (sh e.k).2.2 = true then 0 else 5 := by
  unfold Ev.chk Ev.okB
  rw [if_pos h]
  congr 1
  rw [eq_iff_iff]
  simp only [Bool.and_eq_true]
  constructor
  · rintro ⟨a, b, c, d⟩; exact ⟨a, ⟨b, d⟩, c⟩
  · rintro ⟨a, ⟨b, d⟩, c⟩; exact ⟨a, b, c, d⟩
set_option maxHeartbeats 2000000 in
theorem rcheck_any (e : Ev) (w : World) : Calls Try.prog 59 #[e.val] w fun x w' => x = .returned (.int .i64 e.chk) ∧ Below w.heap.size w w' := by
  cases hk : isK e.k
  · have hr : e.chk = 1 := by unfold Ev.chk; rw [hk]; rfl
    rw [hr]
    obtain ⟨k, cy, ct, a, b, v⟩ := e
    have hn : k < 1 ∨ 24 < k := by simp [isK] at hk; omega
    clear hk hr
    unfold Ev.val
    simp only
    by_cases h1 : k < 1
    · clear hn
      go_enter Try.func59, Try.ntmps59
      go_wp2
      go_ret
      exact ⟨rfl, (Below.refl _ _).alloc (Nat.le_refl _) _⟩
    · have h2 : 24 < k := by omega
      have h3 : 1 ≤ k := by omega
      clear hn h1
      go_enter Try.func59, Try.ntmps59
      go_wp2
      go_ret
      exact ⟨rfl, (Below.refl _ _).alloc (Nat.le_refl _) _⟩
  · rw [chk_of e hk]
    have hf := fun x => rfirst_any e hk x
    have hs := fun x => rsecond_any e hk x
    have ht := fun x => rthird_any e hk x
    generalize wth e.a (sh e.k).1 = x1 at hf ⊢
    generalize (wth e.b (sh e.k).2.1 && !(decide (e.k = 5) && decide (e.a = e.b))) = x2 at hs ⊢
    generalize wth e.v (sh e.k).2.2 = x3 at ht ⊢
    obtain ⟨k, cy, ct, a, b, v⟩ := e
    have h1 : 1 ≤ k ∧ k ≤ 24 := by simpa [isK] using hk
    have hl := h1.1
    have hh := h1.2
    clear h1 hk
    unfold Ev.val at *
    simp only at hf hs ht ⊢
    cases x1
    case false =>
      rw [if_neg (by simp)]
      go_enter Try.func59, Try.ntmps59
      go_wp2_with fail
      refine (hf _).mono ?_
      rintro e w1 ⟨rfl, hb⟩
      go_wp2_with fail
      go_ret
      exact ⟨rfl, ((Below.refl _ w).alloc (Nat.le_refl _) _).trans (hb.mono (by simp))⟩
    case true =>
      cases x2
      case false =>
        rw [if_neg (by simp)]
        go_enter Try.func59, Try.ntmps59
        go_wp2_with fail
        refine (hf _).mono ?_
        rintro e w1 ⟨rfl, hb⟩
        have hblk := (hb.block w.heap.size (by simp)).trans (heap_alloc_new w _)
        obtain ⟨c0, c1, c2, c3, c4, c5⟩ := ev_cells (e := ⟨k, cy, ct, a, b, v⟩) hblk
        simp only at c0 c1 c2 c3 c4 c5
        have hbel : Below w.heap.size w w1 := ((Below.refl _ w).alloc (Nat.le_refl _) _).trans (hb.mono (by simp))
        have hz := blk_lt hblk
        clear hb hf
        go_wp2_with fail
        refine (hs _).mono ?_
        rintro e w2 ⟨rfl, hb⟩
        have hbel2 := hbel.trans (hb.mono (by omega))
        go_wp2_with fail
        go_ret
        exact ⟨rfl, hbel2⟩
      case true =>
        cases x3
        case false =>
          rw [if_neg (by simp)]
          go_enter Try.func59, Try.ntmps59
          go_wp2_with fail
          refine (hf _).mono ?_
          rintro e w1 ⟨rfl, hb⟩
          have hblk := (hb.block w.heap.size (by simp)).trans (heap_alloc_new w _)
          obtain ⟨c0, c1, c2, c3, c4, c5⟩ := ev_cells (e := ⟨k, cy, ct, a, b, v⟩) hblk
          simp only at c0 c1 c2 c3 c4 c5
          have hbel : Below w.heap.size w w1 := ((Below.refl _ w).alloc (Nat.le_refl _) _).trans (hb.mono (by simp))
          have hz := blk_lt hblk
          clear hb hf
          go_wp2_with fail
          refine (hs _).mono ?_
          rintro e w2 ⟨rfl, hb⟩
          have hbel2 := hbel.trans (hb.mono (by omega))
          have hblk := (hb.block w.heap.size (by omega)).trans hblk
          clear c0 c1 c2 c3 c4 c5 hbel hb
          obtain ⟨c0, c1, c2, c3, c4, c5⟩ := ev_cells (e := ⟨k, cy, ct, a, b, v⟩) hblk
          simp only at c0 c1 c2 c3 c4 c5
          go_wp2_with fail
          refine (ht _).mono ?_
          rintro e w3 ⟨rfl, hb⟩
          have hz2 := hbel2.size
          have hbel3 := hbel2.trans (hb.mono (by omega))
          go_wp2_with fail
          go_ret
          exact ⟨rfl, hbel3⟩
        case true =>
          rw [if_pos ⟨rfl, rfl, rfl⟩]
          go_enter Try.func59, Try.ntmps59
          go_wp2_with fail
          refine (hf _).mono ?_
          rintro e w1 ⟨rfl, hb⟩
          have hblk := (hb.block w.heap.size (by simp)).trans (heap_alloc_new w _)
          obtain ⟨c0, c1, c2, c3, c4, c5⟩ := ev_cells (e := ⟨k, cy, ct, a, b, v⟩) hblk
          simp only at c0 c1 c2 c3 c4 c5
          have hbel : Below w.heap.size w w1 := ((Below.refl _ w).alloc (Nat.le_refl _) _).trans (hb.mono (by simp))
          have hz := blk_lt hblk
          clear hb hf
          go_wp2_with fail
          refine (hs _).mono ?_
          rintro e w2 ⟨rfl, hb⟩
          have hbel2 := hbel.trans (hb.mono (by omega))
          have hblk := (hb.block w.heap.size (by omega)).trans hblk
          clear c0 c1 c2 c3 c4 c5 hbel hb
          obtain ⟨c0, c1, c2, c3, c4, c5⟩ := ev_cells (e := ⟨k, cy, ct, a, b, v⟩) hblk
          simp only at c0 c1 c2 c3 c4 c5
          go_wp2_with fail
          refine (ht _).mono ?_
          rintro e w3 ⟨rfl, hb⟩
          have hz2 := hbel2.size
          have hbel3 := hbel2.trans (hb.mono (by omega))
          go_wp2_with fail
          go_ret
          exact ⟨rfl, hbel3⟩
end Go.Proofs.Ytbfipgeoecbpaaa
