/- A slice of events that the code made reads by an index function. No condition. -/
import Derived.Test.YthdenjokedmcfaaEv
import Derived.Test.YthdenjokedmcfaaSl
namespace Go.Proofs.Ythdenjokedmcfaa
open Go.RowKit
/-- Events as cells, one behind the other. -/
def evCells (l : List Ev) : List Value := l.flatMap Ev.cells
theorem evCells_length (l : List Ev) : (evCells l).length = l.length * 6 := by
  induction l with
  | nil => rfl
  | cons e l ih => simp [evCells, Ev.cells] at ih ⊢; omega
theorem evCells_snoc (l : List Ev) (e : Ev) : evCells (l ++ [e]) = evCells l ++ e.cells := by simp [evCells]
theorem evCells_one (l : List Ev) : ∀ u ∈ evCells l, u.oneCell' = true := by
  intro u hu
  simp only [evCells, List.mem_flatMap] at hu
  obtain ⟨e, _, h⟩ := hu
  simp only [Ev.cells, List.mem_cons, List.not_mem_nil, or_false] at h
  rcases h with rfl | rfl | rfl | rfl | rfl | rfl <;> rfl
theorem evCells_at : ∀ (l : List Ev) (i j : Nat), i < l.length → j < 6 → (evCells l)[i * 6 + j]? = some ((l.getD i default).f j)
  | [], i, _, h, _ => absurd h (Nat.not_lt_zero _)
  | e :: l, 0, j, _, hj => by
    match j, hj with
    | 0, _ => rfl
    | 1, _ => rfl
    | 2, _ => rfl
    | 3, _ => rfl
    | 4, _ => rfl
    | 5, _ => rfl
  | e :: l, i + 1, j, h, hj => by
    have ih := evCells_at l i j (by simpa using h) hj
    have e1 : evCells (e :: l) = e.cells ++ evCells l := rfl
    rw [e1, List.getElem?_append_right (by simp [Ev.cells]; omega)]
    have e2 : (i + 1) * 6 + j - e.cells.length = i * 6 + j := by simp [Ev.cells]; omega
    rw [e2, ih]
    rfl
theorem slArgN_own {w : World} {base t cap : Nat} {ao : Option Addr} {l : List Ev} (h : w.ownsRow base t 6 (.slice ao l.length cap) l.length (evCells l)) : SlArgN w ao l.length cap 6 (fun i j => (l.getD i default).f j) := by
  have hcells := fun g (hg : (Value.slice ao l.length cap).ownBlock = some g) => h.cells hg
  rcases h.2 with ⟨h1, h2⟩ | ⟨g, cp, cur, h1, _, hb, hnc, hcm, _⟩
  · simp only [Value.slice.injEq] at h1
    obtain ⟨rfl, h3, rfl⟩ := h1
    rw [h3]
    exact ⟨Nat.le_refl _, Nat.zero_le _, fun i hi => absurd hi (Nat.not_lt_zero _)⟩
  · simp only [Value.slice.injEq] at h1
    obtain ⟨rfl, _, rfl⟩ := h1
    refine ⟨hnc, hcm, fun i hi => ⟨g, 0, rfl, blk_lt hb, fun j hj => ?_⟩⟩
    have q := hcells g rfl (i * 6 + j) _ (evCells_at l i j hi hj)
    rw [Go.WideShapes.add_plain] at q
    rw [show 0 + i * 6 + j = 0 + (i * 6 + j) from by omega]
    exact q
end Go.Proofs.Ythdenjokedmcfaa
