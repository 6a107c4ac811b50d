/- Contracts of package event (shape, within, Fields, Check, Name). No condition but those that each names. -/
import Derived.Test.YtokjkfbbejalhaaDoorProg
import Derived.Test.YtokjkfbbejalhaaDoorCore
import Derived.Test.YtokjkfbbejalhaaDoorEv
namespace Go.Proofs.YtokjkfbbejalhaaDoor
open Go.RowKit
set_option maxRecDepth 20000
theorem is_any (k : Int) (w : World) : Calls Tryd.prog 22 #[.int .i64 k] w fun e w' => e = .returned (.bool (isK k)) ∧ w = w' := by
  by_cases h1 : 1 ≤ k <;> by_cases h2 : k ≤ 24
  all_goals (have e : isK k = (decide (1 ≤ k) && decide (k ≤ 24)) := by simp [isK])
  all_goals (rw [e]; clear e)
  all_goals (simp only [h1, h2])
  all_goals go_enter Tryd.func22, Tryd.ntmps22
  all_goals go_wp2
  all_goals go_ret
  all_goals exact ⟨rfl, rfl⟩
set_option maxHeartbeats 1000000 in
theorem other_any (k : Int) (w : World) (h : 14 ≤ k ∨ k < 1) (h20 : k ≠ 20) : Calls Tryd.prog 34 #[.int .i64 k] w fun e w' => e = .returned (.agg #[.int .i64 (sh k).1, .int .i64 (sh k).2.1, .int .i64 (sh k).2.2]) ∧ Below w.heap.size w w' := by
  go_enter Tryd.func34, Tryd.ntmps34
  go_wp2
  all_goals first
    | (refine leaf_k (n := 14) (k := k) ?_ ?_; assumption; rintro rfl; exact bodyPost_ret (v := .agg #[.int .i64 7, .int .i64 4, .int .i64 11]) (by simp [results, Tryd.results34, go_sem]) rfl ⟨rfl, (Below.refl _ _).alloc (Nat.le_refl _) _⟩)
    | (refine leaf_k (n := 15) (k := k) ?_ ?_; assumption; rintro rfl; exact bodyPost_ret (v := .agg #[.int .i64 5, .int .i64 4, .int .i64 11]) (by simp [results, Tryd.results34, go_sem]) rfl ⟨rfl, (Below.refl _ _).alloc (Nat.le_refl _) _⟩)
    | (refine leaf_k (n := 16) (k := k) ?_ ?_; assumption; rintro rfl; exact bodyPost_ret (v := .agg #[.int .i64 6, .int .i64 4, .int .i64 1]) (by simp [results, Tryd.results34, go_sem]) rfl ⟨rfl, (Below.refl _ _).alloc (Nat.le_refl _) _⟩)
    | (refine leaf_k (n := 17) (k := k) ?_ ?_; assumption; rintro rfl; exact bodyPost_ret (v := .agg #[.int .i64 6, .int .i64 4, .int .i64 1]) (by simp [results, Tryd.results34, go_sem]) rfl ⟨rfl, (Below.refl _ _).alloc (Nat.le_refl _) _⟩)
    | (refine leaf_k (n := 19) (k := k) ?_ ?_; assumption; rintro rfl; exact bodyPost_ret (v := .agg #[.int .i64 6, .int .i64 4, .int .i64 1]) (by simp [results, Tryd.results34, go_sem]) rfl ⟨rfl, (Below.refl _ _).alloc (Nat.le_refl _) _⟩)
    | (refine leaf_k (n := 18) (k := k) ?_ ?_; assumption; rintro rfl; exact bodyPost_ret (v := .agg #[.int .i64 4, .int .i64 0, .int .i64 0]) (by simp [results, Tryd.results34, go_sem]) rfl ⟨rfl, (Below.refl _ _).alloc (Nat.le_refl _) _⟩)
    | (refine leaf_k (n := 21) (k := k) ?_ ?_; assumption; rintro rfl; exact bodyPost_ret (v := .agg #[.int .i64 6, .int .i64 13, .int .i64 0]) (by simp [results, Tryd.results34, go_sem]) rfl ⟨rfl, (Below.refl _ _).alloc (Nat.le_refl _) _⟩)
    | (refine leaf_k (n := 22) (k := k) ?_ ?_; assumption; rintro rfl; exact bodyPost_ret (v := .agg #[.int .i64 5, .int .i64 0, .int .i64 0]) (by simp [results, Tryd.results34, go_sem]) rfl ⟨rfl, (Below.refl _ _).alloc (Nat.le_refl _) _⟩)
    | (refine leaf_k (n := 23) (k := k) ?_ ?_; assumption; rintro rfl; exact bodyPost_ret (v := .agg #[.int .i64 7, .int .i64 13, .int .i64 14]) (by simp [results, Tryd.results34, go_sem]) rfl ⟨rfl, (Below.refl _ _).alloc (Nat.le_refl _) _⟩)
    | (refine leaf_n (n := 14) (k := k) ?_ ?_; assumption; intro hn14; refine leaf_n (n := 15) (k := k) ?_ ?_; assumption; intro hn15; refine leaf_n (n := 16) (k := k) ?_ ?_; assumption; intro hn16; refine leaf_n (n := 17) (k := k) ?_ ?_; assumption; intro hn17; refine leaf_n (n := 19) (k := k) ?_ ?_; assumption; intro hn19; refine leaf_n (n := 18) (k := k) ?_ ?_; assumption; intro hn18; refine leaf_n (n := 21) (k := k) ?_ ?_; assumption; intro hn21; refine leaf_n (n := 22) (k := k) ?_ ?_; assumption; intro hn22; refine leaf_n (n := 23) (k := k) ?_ ?_; assumption; intro hn23; exact bodyPost_ret (v := .agg #[.int .i64 0, .int .i64 0, .int .i64 0]) (by simp [results, Tryd.results34, go_sem]) rfl ⟨by rw [show sh k = (0, 0, 0) from sh_no (by omega)]; rfl, (Below.refl _ _).alloc (Nat.le_refl _) _⟩)
set_option maxHeartbeats 1000000 in
theorem shape_any (k : Int) (w : World) : Calls Tryd.prog 23 #[.int .i64 k] w fun e w' => e = .returned (.agg #[.int .i64 (sh k).1, .int .i64 (sh k).2.1, .int .i64 (sh k).2.2]) ∧ Below w.heap.size w w' := by
  by_cases hk : (14 ≤ k ∨ k < 1) ∧ k ≠ 20
  · have ho := fun x : World => other_any k x hk.1 hk.2
    have h1 : (k == 1) = false := eqb_f (by omega)
    have h2 : (k == 2) = false := eqb_f (by omega)
    have h20 : (k == 20) = false := eqb_f (by omega)
    have h3 : (k == 3) = false := eqb_f (by omega)
    have h4 : (k == 4) = false := eqb_f (by omega)
    have h5 : (k == 5) = false := eqb_f (by omega)
    have h6 : (k == 6) = false := eqb_f (by omega)
    have h8 : (k == 8) = false := eqb_f (by omega)
    have h7 : (k == 7) = false := eqb_f (by omega)
    have h9 : (k == 9) = false := eqb_f (by omega)
    have h10 : (k == 10) = false := eqb_f (by omega)
    have h11 : (k == 11) = false := eqb_f (by omega)
    have h12 : (k == 12) = false := eqb_f (by omega)
    have h13 : (k == 13) = false := eqb_f (by omega)
    clear hk
    go_enter Tryd.func23, Tryd.ntmps23
    go_wp2_with fail
    refine (ho _).mono ?_
    rintro e w1 ⟨rfl, hb⟩
    have hblk := (hb.block w.heap.size (by simp)).trans (heap_alloc_new w _)
    have hf := frozen_blk hblk 0
    have hf1 := frozen_blk hblk 1
    have hf2 := frozen_blk hblk 2
    have c0 : w1.cell? ⟨w.heap.size, 0, none⟩ = some (.int .i64 0) := by rw [cell_blk hblk]; rfl
    have c1 : w1.cell? ⟨w.heap.size, 1, none⟩ = some (.int .i64 0) := by rw [cell_blk hblk]; rfl
    have c2 : w1.cell? ⟨w.heap.size, 2, none⟩ = some (.int .i64 0) := by rw [cell_blk hblk]; rfl
    have hbel : Below w.heap.size w w1 := ((Below.refl _ w).alloc (Nat.le_refl _) _).trans (hb.mono (by simp))
    clear hb hblk ho
    go_wp2_with fail
    exact bodyPost_ret (v := .agg #[.int .i64 (sh k).1, .int .i64 (sh k).2.1, .int .i64 (sh k).2.2]) (by simp [results, Tryd.results23, go_sem, c0, c1, c2]) rfl ⟨rfl, ((hbel.setCell (Nat.le_refl _) _).setCell (Nat.le_refl _) _).setCell (Nat.le_refl _) _⟩
  · go_enter Tryd.func23, Tryd.ntmps23
    go_wp2_with fail
    all_goals first
      | (refine leaf_k (n := 1) (k := k) ?_ ?_; assumption; rintro rfl; exact bodyPost_ret (v := .agg #[.int .i64 3, .int .i64 2, .int .i64 0]) (by simp [results, Tryd.results23, go_sem]) rfl ⟨rfl, (Below.refl _ _).alloc (Nat.le_refl _) _⟩)
      | (refine leaf_k (n := 2) (k := k) ?_ ?_; assumption; rintro rfl; exact bodyPost_ret (v := .agg #[.int .i64 3, .int .i64 6, .int .i64 1]) (by simp [results, Tryd.results23, go_sem]) rfl ⟨rfl, (Below.refl _ _).alloc (Nat.le_refl _) _⟩)
      | (refine leaf_k (n := 20) (k := k) ?_ ?_; assumption; rintro rfl; exact bodyPost_ret (v := .agg #[.int .i64 3, .int .i64 6, .int .i64 1]) (by simp [results, Tryd.results23, go_sem]) rfl ⟨rfl, (Below.refl _ _).alloc (Nat.le_refl _) _⟩)
      | (refine leaf_k (n := 3) (k := k) ?_ ?_; assumption; rintro rfl; exact bodyPost_ret (v := .agg #[.int .i64 3, .int .i64 0, .int .i64 0]) (by simp [results, Tryd.results23, go_sem]) rfl ⟨rfl, (Below.refl _ _).alloc (Nat.le_refl _) _⟩)
      | (refine leaf_k (n := 4) (k := k) ?_ ?_; assumption; rintro rfl; exact bodyPost_ret (v := .agg #[.int .i64 3, .int .i64 0, .int .i64 0]) (by simp [results, Tryd.results23, go_sem]) rfl ⟨rfl, (Below.refl _ _).alloc (Nat.le_refl _) _⟩)
      | (refine leaf_k (n := 5) (k := k) ?_ ?_; assumption; rintro rfl; exact bodyPost_ret (v := .agg #[.int .i64 8, .int .i64 8, .int .i64 0]) (by simp [results, Tryd.results23, go_sem]) rfl ⟨rfl, (Below.refl _ _).alloc (Nat.le_refl _) _⟩)
      | (refine leaf_k (n := 6) (k := k) ?_ ?_; assumption; rintro rfl; exact bodyPost_ret (v := .agg #[.int .i64 5, .int .i64 0, .int .i64 1]) (by simp [results, Tryd.results23, go_sem]) rfl ⟨rfl, (Below.refl _ _).alloc (Nat.le_refl _) _⟩)
      | (refine leaf_k (n := 8) (k := k) ?_ ?_; assumption; rintro rfl; exact bodyPost_ret (v := .agg #[.int .i64 5, .int .i64 0, .int .i64 1]) (by simp [results, Tryd.results23, go_sem]) rfl ⟨rfl, (Below.refl _ _).alloc (Nat.le_refl _) _⟩)
      | (refine leaf_k (n := 7) (k := k) ?_ ?_; assumption; rintro rfl; exact bodyPost_ret (v := .agg #[.int .i64 5, .int .i64 0, .int .i64 12]) (by simp [results, Tryd.results23, go_sem]) rfl ⟨rfl, (Below.refl _ _).alloc (Nat.le_refl _) _⟩)
      | (refine leaf_k (n := 9) (k := k) ?_ ?_; assumption; rintro rfl; exact bodyPost_ret (v := .agg #[.int .i64 5, .int .i64 9, .int .i64 0]) (by simp [results, Tryd.results23, go_sem]) rfl ⟨rfl, (Below.refl _ _).alloc (Nat.le_refl _) _⟩)
      | (refine leaf_k (n := 10) (k := k) ?_ ?_; assumption; rintro rfl; exact bodyPost_ret (v := .agg #[.int .i64 5, .int .i64 2, .int .i64 0]) (by simp [results, Tryd.results23, go_sem]) rfl ⟨rfl, (Below.refl _ _).alloc (Nat.le_refl _) _⟩)
      | (refine leaf_k (n := 11) (k := k) ?_ ?_; assumption; rintro rfl; exact bodyPost_ret (v := .agg #[.int .i64 5, .int .i64 10, .int .i64 0]) (by simp [results, Tryd.results23, go_sem]) rfl ⟨rfl, (Below.refl _ _).alloc (Nat.le_refl _) _⟩)
      | (refine leaf_k (n := 12) (k := k) ?_ ?_; assumption; rintro rfl; exact bodyPost_ret (v := .agg #[.int .i64 5, .int .i64 4, .int .i64 0]) (by simp [results, Tryd.results23, go_sem]) rfl ⟨rfl, (Below.refl _ _).alloc (Nat.le_refl _) _⟩)
      | (refine leaf_k (n := 13) (k := k) ?_ ?_; assumption; rintro rfl; exact bodyPost_ret (v := .agg #[.int .i64 5, .int .i64 4, .int .i64 0]) (by simp [results, Tryd.results23, go_sem]) rfl ⟨rfl, (Below.refl _ _).alloc (Nat.le_refl _) _⟩)
      | (refine leaf_n (n := 1) (k := k) ?_ ?_; assumption; intro hn1; refine leaf_n (n := 2) (k := k) ?_ ?_; assumption; intro hn2; refine leaf_n (n := 20) (k := k) ?_ ?_; assumption; intro hn20; refine leaf_n (n := 3) (k := k) ?_ ?_; assumption; intro hn3; refine leaf_n (n := 4) (k := k) ?_ ?_; assumption; intro hn4; refine leaf_n (n := 5) (k := k) ?_ ?_; assumption; intro hn5; refine leaf_n (n := 6) (k := k) ?_ ?_; assumption; intro hn6; refine leaf_n (n := 8) (k := k) ?_ ?_; assumption; intro hn8; refine leaf_n (n := 7) (k := k) ?_ ?_; assumption; intro hn7; refine leaf_n (n := 9) (k := k) ?_ ?_; assumption; intro hn9; refine leaf_n (n := 10) (k := k) ?_ ?_; assumption; intro hn10; refine leaf_n (n := 11) (k := k) ?_ ?_; assumption; intro hn11; refine leaf_n (n := 12) (k := k) ?_ ?_; assumption; intro hn12; refine leaf_n (n := 13) (k := k) ?_ ?_; assumption; intro hn13; exfalso; omega)
end Go.Proofs.YtokjkfbbejalhaaDoor
