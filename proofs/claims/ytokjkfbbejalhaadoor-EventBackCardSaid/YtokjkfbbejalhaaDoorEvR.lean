/- Contracts of the reference of layer 5 (Has, Check). No condition but those that each names. -/
import Derived.Test.YtokjkfbbejalhaaDoorProg
import Derived.Test.YtokjkfbbejalhaaDoorCore
import Derived.Test.YtokjkfbbejalhaaDoorEv
namespace Go.Proofs.YtokjkfbbejalhaaDoor
open Go.RowKit
set_option maxRecDepth 20000
theorem in_any (n lo hi : Int) (w : World) : Calls Tryd.prog 35 #[.int .u32 n, .int .u32 lo, .int .u32 hi] w fun e w' => e = .returned (.bool (decide (lo ≤ n ∧ n ≤ hi))) ∧ w = w' := by
  go_enter Tryd.func35, Tryd.ntmps35
  go_wp2_with fail
  all_goals go_ret
  all_goals exact ⟨ret_bool (by rw [Bool.eq_iff_iff]; simp <;> omega), rfl⟩
set_option maxHeartbeats 2000000 in
theorem rhas_any (k : Int) (w : World) : Calls Tryd.prog 21 #[.int .i64 k] w fun e w' => e = .returned (.agg #[.bool (hasA k), .bool (hasB k), .bool (hasV k)]) ∧ Below w.heap.size w w' := by
  go_enter Tryd.func21, Tryd.ntmps21
  go_wp2_with fail
  all_goals first
    | (refine leaf_k (n := 2) (k := k) ?_ ?_; assumption; rintro rfl; exact bodyPost_ret (v := .agg #[.bool true, .bool true, .bool true]) (by simp [results, Tryd.results21, go_sem]) rfl ⟨rfl, (Below.refl _ _).alloc (Nat.le_refl _) _⟩)
    | (refine leaf_k (n := 14) (k := k) ?_ ?_; assumption; rintro rfl; exact bodyPost_ret (v := .agg #[.bool true, .bool true, .bool true]) (by simp [results, Tryd.results21, go_sem]) rfl ⟨rfl, (Below.refl _ _).alloc (Nat.le_refl _) _⟩)
    | (refine leaf_k (n := 15) (k := k) ?_ ?_; assumption; rintro rfl; exact bodyPost_ret (v := .agg #[.bool true, .bool true, .bool true]) (by simp [results, Tryd.results21, go_sem]) rfl ⟨rfl, (Below.refl _ _).alloc (Nat.le_refl _) _⟩)
    | (refine leaf_k (n := 16) (k := k) ?_ ?_; assumption; rintro rfl; exact bodyPost_ret (v := .agg #[.bool true, .bool true, .bool true]) (by simp [results, Tryd.results21, go_sem]) rfl ⟨rfl, (Below.refl _ _).alloc (Nat.le_refl _) _⟩)
    | (refine leaf_k (n := 17) (k := k) ?_ ?_; assumption; rintro rfl; exact bodyPost_ret (v := .agg #[.bool true, .bool true, .bool true]) (by simp [results, Tryd.results21, go_sem]) rfl ⟨rfl, (Below.refl _ _).alloc (Nat.le_refl _) _⟩)
    | (refine leaf_k (n := 19) (k := k) ?_ ?_; assumption; rintro rfl; exact bodyPost_ret (v := .agg #[.bool true, .bool true, .bool true]) (by simp [results, Tryd.results21, go_sem]) rfl ⟨rfl, (Below.refl _ _).alloc (Nat.le_refl _) _⟩)
    | (refine leaf_k (n := 20) (k := k) ?_ ?_; assumption; rintro rfl; exact bodyPost_ret (v := .agg #[.bool true, .bool true, .bool true]) (by simp [results, Tryd.results21, go_sem]) rfl ⟨rfl, (Below.refl _ _).alloc (Nat.le_refl _) _⟩)
    | (refine leaf_k (n := 23) (k := k) ?_ ?_; assumption; rintro rfl; exact bodyPost_ret (v := .agg #[.bool true, .bool true, .bool true]) (by simp [results, Tryd.results21, go_sem]) rfl ⟨rfl, (Below.refl _ _).alloc (Nat.le_refl _) _⟩)
    | (refine leaf_k (n := 1) (k := k) ?_ ?_; assumption; rintro rfl; exact bodyPost_ret (v := .agg #[.bool true, .bool true, .bool false]) (by simp [results, Tryd.results21, go_sem]) rfl ⟨rfl, (Below.refl _ _).alloc (Nat.le_refl _) _⟩)
    | (refine leaf_k (n := 5) (k := k) ?_ ?_; assumption; rintro rfl; exact bodyPost_ret (v := .agg #[.bool true, .bool true, .bool false]) (by simp [results, Tryd.results21, go_sem]) rfl ⟨rfl, (Below.refl _ _).alloc (Nat.le_refl _) _⟩)
    | (refine leaf_k (n := 9) (k := k) ?_ ?_; assumption; rintro rfl; exact bodyPost_ret (v := .agg #[.bool true, .bool true, .bool false]) (by simp [results, Tryd.results21, go_sem]) rfl ⟨rfl, (Below.refl _ _).alloc (Nat.le_refl _) _⟩)
    | (refine leaf_k (n := 10) (k := k) ?_ ?_; assumption; rintro rfl; exact bodyPost_ret (v := .agg #[.bool true, .bool true, .bool false]) (by simp [results, Tryd.results21, go_sem]) rfl ⟨rfl, (Below.refl _ _).alloc (Nat.le_refl _) _⟩)
    | (refine leaf_k (n := 11) (k := k) ?_ ?_; assumption; rintro rfl; exact bodyPost_ret (v := .agg #[.bool true, .bool true, .bool false]) (by simp [results, Tryd.results21, go_sem]) rfl ⟨rfl, (Below.refl _ _).alloc (Nat.le_refl _) _⟩)
    | (refine leaf_k (n := 12) (k := k) ?_ ?_; assumption; rintro rfl; exact bodyPost_ret (v := .agg #[.bool true, .bool true, .bool false]) (by simp [results, Tryd.results21, go_sem]) rfl ⟨rfl, (Below.refl _ _).alloc (Nat.le_refl _) _⟩)
    | (refine leaf_k (n := 13) (k := k) ?_ ?_; assumption; rintro rfl; exact bodyPost_ret (v := .agg #[.bool true, .bool true, .bool false]) (by simp [results, Tryd.results21, go_sem]) rfl ⟨rfl, (Below.refl _ _).alloc (Nat.le_refl _) _⟩)
    | (refine leaf_k (n := 21) (k := k) ?_ ?_; assumption; rintro rfl; exact bodyPost_ret (v := .agg #[.bool true, .bool true, .bool false]) (by simp [results, Tryd.results21, go_sem]) rfl ⟨rfl, (Below.refl _ _).alloc (Nat.le_refl _) _⟩)
    | (refine leaf_k (n := 6) (k := k) ?_ ?_; assumption; rintro rfl; exact bodyPost_ret (v := .agg #[.bool true, .bool false, .bool true]) (by simp [results, Tryd.results21, go_sem]) rfl ⟨rfl, (Below.refl _ _).alloc (Nat.le_refl _) _⟩)
    | (refine leaf_k (n := 7) (k := k) ?_ ?_; assumption; rintro rfl; exact bodyPost_ret (v := .agg #[.bool true, .bool false, .bool true]) (by simp [results, Tryd.results21, go_sem]) rfl ⟨rfl, (Below.refl _ _).alloc (Nat.le_refl _) _⟩)
    | (refine leaf_k (n := 8) (k := k) ?_ ?_; assumption; rintro rfl; exact bodyPost_ret (v := .agg #[.bool true, .bool false, .bool true]) (by simp [results, Tryd.results21, go_sem]) rfl ⟨rfl, (Below.refl _ _).alloc (Nat.le_refl _) _⟩)
    | (refine leaf_k (n := 3) (k := k) ?_ ?_; assumption; rintro rfl; exact bodyPost_ret (v := .agg #[.bool true, .bool false, .bool false]) (by simp [results, Tryd.results21, go_sem]) rfl ⟨rfl, (Below.refl _ _).alloc (Nat.le_refl _) _⟩)
    | (refine leaf_k (n := 4) (k := k) ?_ ?_; assumption; rintro rfl; exact bodyPost_ret (v := .agg #[.bool true, .bool false, .bool false]) (by simp [results, Tryd.results21, go_sem]) rfl ⟨rfl, (Below.refl _ _).alloc (Nat.le_refl _) _⟩)
    | (refine leaf_k (n := 18) (k := k) ?_ ?_; assumption; rintro rfl; exact bodyPost_ret (v := .agg #[.bool true, .bool false, .bool false]) (by simp [results, Tryd.results21, go_sem]) rfl ⟨rfl, (Below.refl _ _).alloc (Nat.le_refl _) _⟩)
    | (refine leaf_k (n := 22) (k := k) ?_ ?_; assumption; rintro rfl; exact bodyPost_ret (v := .agg #[.bool true, .bool false, .bool false]) (by simp [results, Tryd.results21, go_sem]) rfl ⟨rfl, (Below.refl _ _).alloc (Nat.le_refl _) _⟩)
    | (refine leaf_n (n := 2) (k := k) ?_ ?_; assumption; intro hn2; refine leaf_n (n := 14) (k := k) ?_ ?_; assumption; intro hn14; refine leaf_n (n := 15) (k := k) ?_ ?_; assumption; intro hn15; refine leaf_n (n := 16) (k := k) ?_ ?_; assumption; intro hn16; refine leaf_n (n := 17) (k := k) ?_ ?_; assumption; intro hn17; refine leaf_n (n := 19) (k := k) ?_ ?_; assumption; intro hn19; refine leaf_n (n := 20) (k := k) ?_ ?_; assumption; intro hn20; refine leaf_n (n := 23) (k := k) ?_ ?_; assumption; intro hn23; refine leaf_n (n := 1) (k := k) ?_ ?_; assumption; intro hn1; refine leaf_n (n := 5) (k := k) ?_ ?_; assumption; intro hn5; refine leaf_n (n := 9) (k := k) ?_ ?_; assumption; intro hn9; refine leaf_n (n := 10) (k := k) ?_ ?_; assumption; intro hn10; refine leaf_n (n := 11) (k := k) ?_ ?_; assumption; intro hn11; refine leaf_n (n := 12) (k := k) ?_ ?_; assumption; intro hn12; refine leaf_n (n := 13) (k := k) ?_ ?_; assumption; intro hn13; refine leaf_n (n := 21) (k := k) ?_ ?_; assumption; intro hn21; refine leaf_n (n := 6) (k := k) ?_ ?_; assumption; intro hn6; refine leaf_n (n := 7) (k := k) ?_ ?_; assumption; intro hn7; refine leaf_n (n := 8) (k := k) ?_ ?_; assumption; intro hn8; refine leaf_n (n := 3) (k := k) ?_ ?_; assumption; intro hn3; refine leaf_n (n := 4) (k := k) ?_ ?_; assumption; intro hn4; refine leaf_n (n := 18) (k := k) ?_ ?_; assumption; intro hn18; refine leaf_n (n := 22) (k := k) ?_ ?_; assumption; intro hn22; exact bodyPost_ret (v := .agg #[.bool false, .bool false, .bool false]) (by simp [results, Tryd.results21, go_sem]) rfl ⟨by rw [show hasA k = false from by rw [hasA, sh_no (by omega)]; rfl, show hasB k = false from by rw [hasB, sh_no (by omega)]; rfl, show hasV k = false from by rw [hasV, sh_no (by omega)]; rfl], (Below.refl _ _).alloc (Nat.le_refl _) _⟩)
end Go.Proofs.YtokjkfbbejalhaaDoor
