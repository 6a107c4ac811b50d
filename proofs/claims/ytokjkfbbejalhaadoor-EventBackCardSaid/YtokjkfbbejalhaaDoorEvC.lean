/- Contracts of package event (shape, within, Fields, Check, Name). No condition but those that each names. -/
import Derived.Test.YtokjkfbbejalhaaDoorProg
import Derived.Test.YtokjkfbbejalhaaDoorCore
import Derived.Test.YtokjkfbbejalhaaDoorEvA
import Derived.Test.YtokjkfbbejalhaaDoorEvB
namespace Go.Proofs.YtokjkfbbejalhaaDoor
open Go.RowKit
set_option maxRecDepth 20000
theorem ev_cells {w : World} {b : Nat} {e : Ev} {T : TypeId} {fz : Nat × Nat} (h : w.heap[b]? = some (.cells e.cells.toArray T fz)) :
    w.cell? ⟨b, 0, none⟩ = some (.int .i64 e.k) ∧ w.cell? ⟨b, 1, none⟩ = some (.int .u64 e.cy) ∧ w.cell? ⟨b, 2, none⟩ = some (.int .u64 e.ct) ∧ w.cell? ⟨b, 3, none⟩ = some (.int .u32 e.a) ∧ w.cell? ⟨b, 4, none⟩ = some (.int .u32 e.b) ∧ w.cell? ⟨b, 5, none⟩ = some (.int .u32 e.v) :=
  ⟨by rw [cell_blk h]; rfl, by rw [cell_blk h]; rfl, by rw [cell_blk h]; rfl, by rw [cell_blk h]; rfl, by rw [cell_blk h]; rfl, by rw [cell_blk h]; rfl⟩
theorem bcell {B : Nat} {W w1 : World} (hb : Below B W w1) : (∀ b o, b < B → w1.cell? ⟨b, o, none⟩ = W.cell? ⟨b, o, none⟩) ∧ (∀ b o, b < B → w1.frozen? ⟨b, o, none⟩ = W.frozen? ⟨b, o, none⟩) :=
  ⟨fun b o h => hb.cell (p := ⟨b, o, none⟩) h, fun b o h => hb.frozen (p := ⟨b, o, none⟩) h⟩
theorem ne0_nat (n : Nat) : ((n : Int) != 0) = (n != 0) := by
  rw [Bool.eq_iff_iff]; simp
theorem fields_any (k : Int) (w : World) : Calls Tryd.prog 20 #[.int .i64 k] w fun e w' => e = .returned (.tuple #[.bool (hasA k), .bool (hasB k), .bool (hasV k)]) ∧ Below w.heap.size w w' := by
  have hs := fun x => shape_any k x
  unfold hasA hasB hasV
  generalize sh k = s at hs ⊢
  obtain ⟨p, q, r⟩ := s
  simp only at hs ⊢
  simp only [← ne0_nat]
  go_enter Tryd.func20, Tryd.ntmps20
  go_wp2_with fail
  refine (hs _).mono ?_
  rintro e w1 ⟨rfl, hb⟩
  clear hs
  have hz := hb.size
  go_wp2_with fail
  go_quiet (fail)
  go_wp2_with fail
  go_ret3
  exact ⟨rfl, below_drewN (hb.alloc hz _) _⟩
set_option maxHeartbeats 2000000 in
theorem check_any (e : Ev) (w : World) : Calls Tryd.prog 10 #[e.val] w fun x w' => x = .returned (.int .i64 e.chk) ∧ Below w.heap.size w w' := by
  obtain ⟨k, cy, ct, a, b, v⟩ := e
  unfold Ev.val Ev.chk Ev.okB
  simp only
  cases hk : isK k
  · rw [if_neg (by simp)]
    have hi := fun x => is_any k x
    rw [hk] at hi
    clear hk
    go_enter Tryd.func10, Tryd.ntmps10
    go_wp2_with (go_at_call 22; refine (hi _).mono ?_; rintro e w1 ⟨rfl, rfl⟩)
    go_ret
    exact ⟨rfl, (Below.refl _ _).alloc (Nat.le_refl _) _⟩
  · rw [if_pos rfl]
    have hi := fun x => is_any k x
    rw [hk] at hi
    clear hk
    have hs := fun x => shape_any k x
    have hl := sh_le k
    generalize sh k = s at hs hl ⊢
    obtain ⟨p, q, r⟩ := s
    simp only at hs hl ⊢
    have h1 := fun x => within_any a p hl.1 x
    have h2 := fun x => within_any b q hl.2.1 x
    have h3 := fun x => within_any v r hl.2.2 x
    generalize wth a p = x1 at h1 ⊢
    generalize wth b q = x2 at h2 ⊢
    generalize wth v r = x3 at h3 ⊢
    clear hl
    cases x1
    case false =>
      go_enter Tryd.func10, Tryd.ntmps10
      go_wp2_with fail
      refine (hi _).mono ?_
      rintro e w1 ⟨rfl, rfl⟩
      go_wp2_with fail
      refine (hs _).mono ?_
      rintro e w2 ⟨rfl, hb⟩
      have hz : w.heap.size < w2.heap.size := by (have := hb.size; simp at this; omega)
      have hblk := (hb.block w.heap.size (by simp)).trans (heap_alloc_new w _)
      obtain ⟨c0, c1, c2, c3, c4, c5⟩ := ev_cells (e := ⟨k, cy, ct, a, b, v⟩) hblk
      simp only at c0 c1 c2 c3 c4 c5
      have hbel : Below w.heap.size w w2 := ((Below.refl _ w).alloc (Nat.le_refl _) _).trans (hb.mono (by simp))
      clear hb hblk hi hs
      go_wp2_with (first | (go_at_call 24; (with_reducible refine (h1 _).mono ?_); rintro e w3 ⟨rfl, rfl⟩) | (go_at_call 24; (with_reducible refine (h2 _).mono ?_); rintro e w3 ⟨rfl, rfl⟩) | (go_at_call 24; (with_reducible refine (h3 _).mono ?_); rintro e w3 ⟨rfl, rfl⟩))
      go_ret
      exact ⟨rfl, hbel.alloc (by omega) _⟩
    case true =>
      cases x2
      case false =>
        go_enter Tryd.func10, Tryd.ntmps10
        go_wp2_with fail
        refine (hi _).mono ?_
        rintro e w1 ⟨rfl, rfl⟩
        go_wp2_with fail
        refine (hs _).mono ?_
        rintro e w2 ⟨rfl, hb⟩
        have hz : w.heap.size < w2.heap.size := by (have := hb.size; simp at this; omega)
        have hblk := (hb.block w.heap.size (by simp)).trans (heap_alloc_new w _)
        obtain ⟨c0, c1, c2, c3, c4, c5⟩ := ev_cells (e := ⟨k, cy, ct, a, b, v⟩) hblk
        simp only at c0 c1 c2 c3 c4 c5
        have hbel : Below w.heap.size w w2 := ((Below.refl _ w).alloc (Nat.le_refl _) _).trans (hb.mono (by simp))
        clear hb hblk hi hs
        go_wp2_with (first | (go_at_call 24; (with_reducible refine (h1 _).mono ?_); rintro e w3 ⟨rfl, rfl⟩) | (go_at_call 24; (with_reducible refine (h2 _).mono ?_); rintro e w3 ⟨rfl, rfl⟩) | (go_at_call 24; (with_reducible refine (h3 _).mono ?_); rintro e w3 ⟨rfl, rfl⟩))
        go_ret
        exact ⟨rfl, hbel.alloc (by omega) _⟩
      case true =>
        cases x3
        case false =>
          go_enter Tryd.func10, Tryd.ntmps10
          go_wp2_with fail
          refine (hi _).mono ?_
          rintro e w1 ⟨rfl, rfl⟩
          go_wp2_with fail
          refine (hs _).mono ?_
          rintro e w2 ⟨rfl, hb⟩
          have hz : w.heap.size < w2.heap.size := by (have := hb.size; simp at this; omega)
          have hblk := (hb.block w.heap.size (by simp)).trans (heap_alloc_new w _)
          obtain ⟨c0, c1, c2, c3, c4, c5⟩ := ev_cells (e := ⟨k, cy, ct, a, b, v⟩) hblk
          simp only at c0 c1 c2 c3 c4 c5
          have hbel : Below w.heap.size w w2 := ((Below.refl _ w).alloc (Nat.le_refl _) _).trans (hb.mono (by simp))
          clear hb hblk hi hs
          go_wp2_with (first | (go_at_call 24; (with_reducible refine (h1 _).mono ?_); rintro e w3 ⟨rfl, rfl⟩) | (go_at_call 24; (with_reducible refine (h2 _).mono ?_); rintro e w3 ⟨rfl, rfl⟩) | (go_at_call 24; (with_reducible refine (h3 _).mono ?_); rintro e w3 ⟨rfl, rfl⟩))
          go_ret
          exact ⟨rfl, hbel.alloc (by omega) _⟩
        case true =>
          by_cases h5 : k = 5
          · by_cases hab : a = b
            · have d5 : (k == 5) = true := eqb_t h5
              have dab : ((a : Int) == b) = true := by rw [hab]; simp
              have dh5 : decide (k = 5) = true := by simp [h5]
              have dhab : decide (a = b) = true := by simp [hab]
              rw [dh5, dhab]
              clear h5 hab dh5 dhab
              go_enter Tryd.func10, Tryd.ntmps10
              go_wp2_with fail
              refine (hi _).mono ?_
              rintro e w1 ⟨rfl, rfl⟩
              go_wp2_with fail
              refine (hs _).mono ?_
              rintro e w2 ⟨rfl, hb⟩
              have hz : w.heap.size < w2.heap.size := by (have := hb.size; simp at this; omega)
              have hblk := (hb.block w.heap.size (by simp)).trans (heap_alloc_new w _)
              obtain ⟨c0, c1, c2, c3, c4, c5⟩ := ev_cells (e := ⟨k, cy, ct, a, b, v⟩) hblk
              simp only at c0 c1 c2 c3 c4 c5
              have hbel : Below w.heap.size w w2 := ((Below.refl _ w).alloc (Nat.le_refl _) _).trans (hb.mono (by simp))
              clear hb hblk hi hs
              go_wp2_with (first | (go_at_call 24; (with_reducible refine (h1 _).mono ?_); rintro e w3 ⟨rfl, rfl⟩) | (go_at_call 24; (with_reducible refine (h2 _).mono ?_); rintro e w3 ⟨rfl, rfl⟩) | (go_at_call 24; (with_reducible refine (h3 _).mono ?_); rintro e w3 ⟨rfl, rfl⟩))
              go_ret
              exact ⟨rfl, hbel.alloc (by omega) _⟩
            · have d5 : (k == 5) = true := eqb_t h5
              have dab : ((a : Int) == b) = false := by rw [beq_eq_false_iff_ne]; omega
              have dhab : decide (a = b) = false := by simp [hab]
              rw [dhab, Bool.and_false]
              clear h5 hab dhab
              go_enter Tryd.func10, Tryd.ntmps10
              go_wp2_with fail
              refine (hi _).mono ?_
              rintro e w1 ⟨rfl, rfl⟩
              go_wp2_with fail
              refine (hs _).mono ?_
              rintro e w2 ⟨rfl, hb⟩
              have hz : w.heap.size < w2.heap.size := by (have := hb.size; simp at this; omega)
              have hblk := (hb.block w.heap.size (by simp)).trans (heap_alloc_new w _)
              obtain ⟨c0, c1, c2, c3, c4, c5⟩ := ev_cells (e := ⟨k, cy, ct, a, b, v⟩) hblk
              simp only at c0 c1 c2 c3 c4 c5
              have hbel : Below w.heap.size w w2 := ((Below.refl _ w).alloc (Nat.le_refl _) _).trans (hb.mono (by simp))
              clear hb hblk hi hs
              go_wp2_with (first | (go_at_call 24; (with_reducible refine (h1 _).mono ?_); rintro e w3 ⟨rfl, rfl⟩) | (go_at_call 24; (with_reducible refine (h2 _).mono ?_); rintro e w3 ⟨rfl, rfl⟩) | (go_at_call 24; (with_reducible refine (h3 _).mono ?_); rintro e w3 ⟨rfl, rfl⟩))
              go_ret
              exact ⟨rfl, hbel.alloc (by omega) _⟩
          · have d5 : (k == 5) = false := eqb_f h5
            have dh5 : decide (k = 5) = false := by simp [h5]
            rw [dh5, Bool.false_and]
            clear h5 dh5
            go_enter Tryd.func10, Tryd.ntmps10
            go_wp2_with fail
            refine (hi _).mono ?_
            rintro e w1 ⟨rfl, rfl⟩
            go_wp2_with fail
            refine (hs _).mono ?_
            rintro e w2 ⟨rfl, hb⟩
            have hz : w.heap.size < w2.heap.size := by (have := hb.size; simp at this; omega)
            have hblk := (hb.block w.heap.size (by simp)).trans (heap_alloc_new w _)
            obtain ⟨c0, c1, c2, c3, c4, c5⟩ := ev_cells (e := ⟨k, cy, ct, a, b, v⟩) hblk
            simp only at c0 c1 c2 c3 c4 c5
            have hbel : Below w.heap.size w w2 := ((Below.refl _ w).alloc (Nat.le_refl _) _).trans (hb.mono (by simp))
            clear hb hblk hi hs
            go_wp2_with (first | (go_at_call 24; (with_reducible refine (h1 _).mono ?_); rintro e w3 ⟨rfl, rfl⟩) | (go_at_call 24; (with_reducible refine (h2 _).mono ?_); rintro e w3 ⟨rfl, rfl⟩) | (go_at_call 24; (with_reducible refine (h3 _).mono ?_); rintro e w3 ⟨rfl, rfl⟩))
            go_ret
            exact ⟨rfl, hbel.alloc (by omega) _⟩
end Go.Proofs.YtokjkfbbejalhaaDoor
