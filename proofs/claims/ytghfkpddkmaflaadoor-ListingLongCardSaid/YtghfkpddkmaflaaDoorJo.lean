/- Slices of instructions that the code made, by index functions; the reference's Same (layer 11) at two slices that read alike. No condition but those that it names. -/
import Derived.Test.YtghfkpddkmaflaaDoorIz
import Derived.Test.YtghfkpddkmaflaaDoorSl
namespace Go.Proofs.YtghfkpddkmaflaaDoor
open Go Go.RowKit
set_option linter.unusedVariables false
set_option linter.unusedSimpArgs false
set_option maxRecDepth 20000
theorem insCells_at : ∀ (l : List Ins) (i j : Nat), i < l.length → j < 6 → (insCells l)[i * 6 + j]? = some ((l.getD i default).f j)
  | [], i, _, h, _ => absurd h (Nat.not_lt_zero _)
  | e :: l, 0, j, _, hj => by
    match j, hj with
    | 0, _ => rfl
    | 1, _ => rfl
    | 2, _ => rfl
    | 3, _ => rfl
    | 4, _ => rfl
    | 5, _ => rfl
  | e :: l, i + 1, j, h, hj => by
    have ih := insCells_at l i j (by simpa using h) hj
    have e1 : insCells (e :: l) = e.cells ++ insCells l := rfl
    rw [e1, List.getElem?_append_right (by simp [Ins.cells]; omega)]
    have e2 : (i + 1) * 6 + j - e.cells.length = i * 6 + j := by simp [Ins.cells]; omega
    rw [e2, ih]
    rfl
theorem slArgN_own {w : World} {base t cap : Nat} {ao : Option Addr} {l : List Ins} (h : w.ownsRow base t 6 (.slice ao l.length cap) l.length (insCells l)) : SlArgN w ao l.length cap 6 (fun i j => (l.getD i default).f j) := by
  have hcells := fun g (hg : (Value.slice ao l.length cap).ownBlock = some g) => h.cells hg
  rcases h.2 with ⟨h1, h2⟩ | ⟨g, cp, cur, h1, _, hb, hnc, hcm, _⟩
  · simp only [Value.slice.injEq] at h1
    obtain ⟨rfl, h3, rfl⟩ := h1
    rw [h3]
    exact ⟨Nat.le_refl _, Nat.zero_le _, fun _ hi => absurd hi (Nat.not_lt_zero _)⟩
  · simp only [Value.slice.injEq] at h1
    obtain ⟨rfl, _, rfl⟩ := h1
    refine ⟨hnc, hcm, fun i hi => ⟨g, 0, rfl, blk_lt hb, fun j hj => ?_⟩⟩
    have q := hcells g rfl (i * 6 + j) _ (insCells_at l i j hi hj)
    rw [Go.WideShapes.add_plain] at q
    rw [show 0 + i * 6 + j = 0 + (i * 6 + j) from by omega]
    exact q
theorem six {W w' : World} {oa : Option Addr} {len cap B : Nat} {z : Nat → Ins} (h : SlArgN W oa len cap 6 (fun i j => (z i).f j)) (k : Below B W w') (hB : W.heap.size ≤ B) {i : Nat} (hi : i < len) :
    ∃ b off, oa = some ⟨b, off, none⟩ ∧ b < W.heap.size ∧ w'.cell? ⟨b, off + i * 6, none⟩ = some (.int .i64 (z i).o) ∧ w'.cell? ⟨b, off + i * 6 + 1, none⟩ = some (.int .i64 (z i).a) ∧ w'.cell? ⟨b, off + i * 6 + 2, none⟩ = some (.int .i64 (z i).b) ∧ w'.cell? ⟨b, off + i * 6 + 3, none⟩ = some (.int .i64 (z i).c) ∧ w'.cell? ⟨b, off + i * 6 + 4, none⟩ = some (.int .i64 (z i).d) ∧ w'.cell? ⟨b, off + i * 6 + 5, none⟩ = some (.int .u32 (z i).k) := by
  obtain ⟨b, off, h1, h2, h3⟩ := h.below k hB hi
  exact ⟨b, off, h1, h2, h3 0 (by decide), h3 1 (by decide), h3 2 (by decide), h3 3 (by decide), h3 4 (by decide), h3 5 (by decide)⟩
set_option maxHeartbeats 4000000 in
theorem rsame_eq (w : World) (oa ob : Option Addr) (len cap cap' : Nat) (z : Nat → Ins) (h1 : SlArgN w oa len cap 6 (fun i j => (z i).f j)) (h2 : SlArgN w ob len cap' 6 (fun i j => (z i).f j)) (hlen : len ≤ 1000000) :
    Calls Tryd.prog 17 #[.slice oa len cap, .slice ob len cap'] w fun x w' => x = .returned (.bool true) ∧ ∃ n, w.drewN n = w' := by
  go_enter Tryd.func17, Tryd.ntmps17
  go_wp2_with fail
  go_loopw [5] (fun x wr => ∃ (i n : Nat), x = .int .i64 i ∧ i ≤ len ∧ wr = w.drewN n) (fun x _ => len - (intOf x).toNat)
  case atStart => exact ⟨0, 0, rfl, Nat.zero_le _, rfl⟩
  case round =>
    obtain ⟨i, n, rfl, hi, rfl⟩ := hrel
    by_cases hlt : i < len
    · obtain ⟨g, off, rfl, hg, a0, a1, a2, a3, a4, a5⟩ := six h1 (Below.refl w.heap.size w) (Nat.le_refl _) hlt
      obtain ⟨g', off', rfl, hg', b0, b1, b2, b3, b4, b5⟩ := six h2 (Below.refl w.heap.size w) (Nat.le_refl _) hlt
      have hlt' : (i : Int) < len := by omega
      generalize z i = e at a0 a1 a2 a3 a4 a5 b0 b1 b2 b3 b4 b5
      obtain ⟨o, a, b, c, d, k⟩ := e
      simp only at a0 a1 a2 a3 a4 a5 b0 b1 b2 b3 b4 b5
      go_wp2_with fail
      go_quiet (fail)
      go_wp2_with fail
      go_roundw
      case rel => exact ⟨i + 1, n + nq, by go_num, by omega, by first | rfl | exact (World.drewN_drewN _ _ _) | simp⟩
      case measure => simp [intOf]; omega
    · obtain rfl : i = len := by omega
      go_wp2_with fail
      go_ret
      exact ⟨rfl, n, rfl⟩
end Go.Proofs.YtghfkpddkmaflaaDoor
