/- The reference's Check. No condition. -/
import Derived.Test.YtokjkfbbejalhaaDoorEvC
import Derived.Test.YtokjkfbbejalhaaDoorEvP
import Derived.Test.YtokjkfbbejalhaaDoorEvQ
import Derived.Test.YtokjkfbbejalhaaDoorEvS
namespace Go.Proofs.YtokjkfbbejalhaaDoor
open Go.RowKit
set_option maxRecDepth 20000
theorem chk_of (e : Ev) (h : isK e.k = true) : e.chk = if wth e.a (sh e.k).1 = true ∧ (wth e.b (sh e.k).2.1 && !(decide (e.k = 5) && decide (e.a = e.b))) = true ∧ wth e.v (sh e.k).2.2 = true then 0 else 5 := by
  unfold Ev.chk Ev.okB
  rw [if_pos h]
  congr 1
  rw [eq_iff_iff]
  simp only [Bool.and_eq_true]
  constructor
  · rintro ⟨a, b, c, d⟩; exact ⟨a, ⟨b, d⟩, c⟩
  · rintro ⟨a, ⟨b, d⟩, c⟩; exact ⟨a, b, c, d⟩
set_option maxHeartbeats 2000000 in
theorem rcheck_any (e : Ev) (w : World) : Calls Tryd.prog 11 #[e.val] w fun x w' => x = .returned (.int .i64 e.chk) ∧ Below w.heap.size w w' := by
  cases hk : isK e.k
  · have hr : e.chk = 1 := by unfold Ev.chk; rw [hk]; rfl
    rw [hr]
    obtain ⟨k, cy, ct, a, b, v⟩ := e
    have hn : k < 1 ∨ 24 < k := by simp [isK] at hk; omega
    clear hk hr
    unfold Ev.val
    simp only
    by_cases h1 : k < 1
    · clear hn
      go_enter Tryd.func11, Tryd.ntmps11
      go_wp2
      go_ret
      exact ⟨rfl, (Below.refl _ _).alloc (Nat.le_refl _) _⟩
    · have h2 : 24 < k := by omega
      have h3 : 1 ≤ k := by omega
      clear hn h1
      go_enter Tryd.func11, Tryd.ntmps11
      go_wp2
      go_ret
      exact ⟨rfl, (Below.refl _ _).alloc (Nat.le_refl _) _⟩
  · rw [chk_of e hk]
    have hf := fun x => rfirst_any e hk x
    have hs := fun x => rsecond_any e hk x
    have ht := fun x => rthird_any e hk x
    generalize wth e.a (sh e.k).1 = x1 at hf ⊢
    generalize (wth e.b (sh e.k).2.1 && !(decide (e.k = 5) && decide (e.a = e.b))) = x2 at hs ⊢
    generalize wth e.v (sh e.k).2.2 = x3 at ht ⊢
    obtain ⟨k, cy, ct, a, b, v⟩ := e
    have h1 : 1 ≤ k ∧ k ≤ 24 := by simpa [isK] using hk
    have hl := h1.1
    have hh := h1.2
    clear h1 hk
    unfold Ev.val at *
    simp only at hf hs ht ⊢
    cases x1
    case false =>
      rw [if_neg (by simp)]
      go_enter Tryd.func11, Tryd.ntmps11
      go_wp2_with fail
      refine (hf _).mono ?_
      rintro e w1 ⟨rfl, hb⟩
      go_wp2_with fail
      go_ret
      exact ⟨rfl, ((Below.refl _ w).alloc (Nat.le_refl _) _).trans (hb.mono (by simp))⟩
    case true =>
      cases x2
      case false =>
        rw [if_neg (by simp)]
        go_enter Tryd.func11, Tryd.ntmps11
        go_wp2_with fail
        refine (hf _).mono ?_
        rintro e w1 ⟨rfl, hb⟩
        have hblk := (hb.block w.heap.size (by simp)).trans (heap_alloc_new w _)
        obtain ⟨c0, c1, c2, c3, c4, c5⟩ := ev_cells (e := ⟨k, cy, ct, a, b, v⟩) hblk
        simp only at c0 c1 c2 c3 c4 c5
        have hbel : Below w.heap.size w w1 := ((Below.refl _ w).alloc (Nat.le_refl _) _).trans (hb.mono (by simp))
        have hz := blk_lt hblk
        clear hb hf
        go_wp2_with fail
        refine (hs _).mono ?_
        rintro e w2 ⟨rfl, hb⟩
        have hbel2 := hbel.trans (hb.mono (by omega))
        go_wp2_with fail
        go_ret
        exact ⟨rfl, hbel2⟩
      case true =>
        cases x3
        case false =>
          rw [if_neg (by simp)]
          go_enter Tryd.func11, Tryd.ntmps11
          go_wp2_with fail
          refine (hf _).mono ?_
          rintro e w1 ⟨rfl, hb⟩
          have hblk := (hb.block w.heap.size (by simp)).trans (heap_alloc_new w _)
          obtain ⟨c0, c1, c2, c3, c4, c5⟩ := ev_cells (e := ⟨k, cy, ct, a, b, v⟩) hblk
          simp only at c0 c1 c2 c3 c4 c5
          have hbel : Below w.heap.size w w1 := ((Below.refl _ w).alloc (Nat.le_refl _) _).trans (hb.mono (by simp))
          have hz := blk_lt hblk
          clear hb hf
          go_wp2_with fail
          refine (hs _).mono ?_
          rintro e w2 ⟨rfl, hb⟩
          have hbel2 := hbel.trans (hb.mono (by omega))
          have hblk := (hb.block w.heap.size (by omega)).trans hblk
          clear c0 c1 c2 c3 c4 c5 hbel hb
          obtain ⟨c0, c1, c2, c3, c4, c5⟩ := ev_cells (e := ⟨k, cy, ct, a, b, v⟩) hblk
          simp only at c0 c1 c2 c3 c4 c5
          go_wp2_with fail
          refine (ht _).mono ?_
          rintro e w3 ⟨rfl, hb⟩
          have hz2 := hbel2.size
          have hbel3 := hbel2.trans (hb.mono (by omega))
          go_wp2_with fail
          go_ret
          exact ⟨rfl, hbel3⟩
        case true =>
          rw [if_pos ⟨rfl, rfl, rfl⟩]
          go_enter Tryd.func11, Tryd.ntmps11
          go_wp2_with fail
          refine (hf _).mono ?_
          rintro e w1 ⟨rfl, hb⟩
          have hblk := (hb.block w.heap.size (by simp)).trans (heap_alloc_new w _)
          obtain ⟨c0, c1, c2, c3, c4, c5⟩ := ev_cells (e := ⟨k, cy, ct, a, b, v⟩) hblk
          simp only at c0 c1 c2 c3 c4 c5
          have hbel : Below w.heap.size w w1 := ((Below.refl _ w).alloc (Nat.le_refl _) _).trans (hb.mono (by simp))
          have hz := blk_lt hblk
          clear hb hf
          go_wp2_with fail
          refine (hs _).mono ?_
          rintro e w2 ⟨rfl, hb⟩
          have hbel2 := hbel.trans (hb.mono (by omega))
          have hblk := (hb.block w.heap.size (by omega)).trans hblk
          clear c0 c1 c2 c3 c4 c5 hbel hb
          obtain ⟨c0, c1, c2, c3, c4, c5⟩ := ev_cells (e := ⟨k, cy, ct, a, b, v⟩) hblk
          simp only at c0 c1 c2 c3 c4 c5
          go_wp2_with fail
          refine (ht _).mono ?_
          rintro e w3 ⟨rfl, hb⟩
          have hz2 := hbel2.size
          have hbel3 := hbel2.trans (hb.mono (by omega))
          go_wp2_with fail
          go_ret
          exact ⟨rfl, hbel3⟩
end Go.Proofs.YtokjkfbbejalhaaDoor
