/- Slices of events that came in as arguments. No condition. -/
import Derived.Test.YtbfipgeoecbpaaaBR
import Derived.Deep.DeepMust
namespace Go.Proofs.Ytbfipgeoecbpaaa
open Go.WideShapes Go.Deep Go.RowKit
set_option linter.unusedVariables false
set_option linter.unusedSimpArgs false
set_option maxRecDepth 20000
theorem evr_of {H : Type} {enc : TypeId × Value → H} {W : World} {base n : Nat} {held : Bool} {cs : List Value} {x : DataW H × List MemPlace} (hl : cs.length = 6)
    (hn : DataW.trod enc Try.prog W base (fun _ => true) held n 25 cs = some x) : ∃ e : Ev, cs = e.cells ∧ e.Wf := by
  match cs, hl with
  | [c0, c1, c2, c3, c4, c5], _ =>
    obtain ⟨ys, n', _, _, _, hyl, hf⟩ := DataW.trod_struct Try.underlying25 hn
    have hyl : ys.length = 6 := hyl
    have k1 : Try.prog.cellsOf 3 = 1 := by kernel_rfl
    have k2 : Try.prog.cellsOf 22 = 1 := by kernel_rfl
    have k3 : Try.prog.cellsOf 23 = 1 := by kernel_rfl
    have h0 : DataW.trod enc Try.prog W base (fun _ => true) held n' 3 (List.take (Try.prog.cellsOf 3) [c0, c1, c2, c3, c4, c5]) = ys[0]? := hf 0 _ rfl
    have h1 : DataW.trod enc Try.prog W base (fun _ => true) held n' 22 (List.take (Try.prog.cellsOf 22) [c1, c2, c3, c4, c5]) = ys[1]? := hf 1 _ rfl
    have h2 : DataW.trod enc Try.prog W base (fun _ => true) held n' 22 (List.take (Try.prog.cellsOf 22) [c2, c3, c4, c5]) = ys[2]? := hf 2 _ rfl
    have h3 : DataW.trod enc Try.prog W base (fun _ => true) held n' 23 (List.take (Try.prog.cellsOf 23) [c3, c4, c5]) = ys[3]? := hf 3 _ rfl
    have h4 : DataW.trod enc Try.prog W base (fun _ => true) held n' 23 (List.take (Try.prog.cellsOf 23) [c4, c5]) = ys[4]? := hf 4 _ rfl
    have h5 : DataW.trod enc Try.prog W base (fun _ => true) held n' 23 (List.take (Try.prog.cellsOf 23) [c5]) = ys[5]? := hf 5 _ rfl
    rw [k1, List.getElem?_eq_getElem (by omega)] at h0
    rw [k2, List.getElem?_eq_getElem (by omega)] at h1 h2
    rw [k3, List.getElem?_eq_getElem (by omega)] at h3 h4 h5
    obtain ⟨z0, e0, _, w0⟩ := DataW.trod_int Try.underlying3 h0
    obtain ⟨z1, e1, _, w1⟩ := DataW.trod_int Try.underlying22 h1
    obtain ⟨z2, e2, _, w2⟩ := DataW.trod_int Try.underlying22 h2
    obtain ⟨z3, e3, _, w3⟩ := DataW.trod_int Try.underlying23 h3
    obtain ⟨z4, e4, _, w4⟩ := DataW.trod_int Try.underlying23 h4
    obtain ⟨z5, e5, _, w5⟩ := DataW.trod_int Try.underlying23 h5
    simp at e0 e1 e2 e3 e4 e5
    obtain ⟨r0, r1⟩ := i64_of w0
    obtain ⟨m1, rfl, u1⟩ := u64_of w1
    obtain ⟨m2, rfl, u2⟩ := u64_of w2
    obtain ⟨m3, rfl, u3⟩ := u32_of w3
    obtain ⟨m4, rfl, u4⟩ := u32_of w4
    obtain ⟨m5, rfl, u5⟩ := u32_of w5
    subst e0 e1 e2 e3 e4 e5
    exact ⟨⟨z0, m1, m2, m3, m4, m5⟩, rfl, r0, r1, u1, u2, u3, u4, u5⟩
theorem slArg_struct25 {H : Type} {enc : TypeId × Value → H} {W : World} {base : Nat} {held : Bool} {v : Value} {d : DataW H} {ps : List MemPlace}
    (hv : ∃ a len cap, v = .slice a len cap) (h : DataW.Trod enc Try.prog W base (fun _ => true) held 40 v d ps) :
    ∃ (oa : Option Addr) (len cap : Nat) (z : Nat → Ev), v = .slice oa len cap ∧ SlArgN W oa len cap 6 (fun i j => (z i).f j) ∧ SlLen d cap ∧ (∀ i, i < len → (z i).Wf) ∧ (oa = none → cap = 0) := by
  obtain ⟨oa, len, cap, L, rfl, hs, hd, hx⟩ := slArgN_any (c := 6) Try.underlying40 (by kernel_rfl) (by decide) hv h
  have hnone : oa = none → cap = 0 := by
    obtain ⟨fuel, hf⟩ := h
    rcases open_slice Try.underlying40 hf with ⟨hcs, _⟩ | ⟨x, l, cp, m, n, D, Pl, hcs, _, hl, hm, hmm, hxx, hx⟩
    · simp [Value.cells] at hcs
      exact fun _ => hcs.2.2
    · simp [Value.cells] at hcs
      intro h0
      rw [h0] at hcs
      cases hcs.1
  have key : ∀ i, i < len → ∃ o : Ev, (∀ j, j < 6 → (L i).getD j (.bool false) = o.f j) ∧ o.Wf := by
    intro i hi
    obtain ⟨hl, n, x, hn⟩ := hx i hi
    obtain ⟨e, he, hw⟩ := evr_of hl hn
    refine ⟨e, fun j hj => ?_, hw⟩
    rw [he]
    match j, hj with
    | 0, _ => rfl
    | 1, _ => rfl
    | 2, _ => rfl
    | 3, _ => rfl
    | 4, _ => rfl
    | 5, _ => rfl
  obtain ⟨z, hz⟩ := Go.Deep.choose_lt (α := Ev) (p := fun i o => (∀ j, j < 6 → (L i).getD j (.bool false) = o.f j) ∧ o.Wf) key
  exact ⟨oa, len, cap, z, rfl, hs.congr fun i hi => (hz i hi).1, hd, fun i hi => (hz i hi).2, hnone⟩
theorem SlArgN.kept {W w' : World} {oa : Option Addr} {len cap c : Nat} {F : Nat → Nat → Value} (h : SlArgN W oa len cap c F) (k : Below W.heap.size W w') : SlArgN w' oa len cap c F :=
  ⟨h.1, h.2.1, fun i hi => by obtain ⟨b, off, h1, h2, h3⟩ := h.below k (Nat.le_refl _) hi; exact ⟨b, off, h1, Nat.lt_of_lt_of_le h2 k.size, h3⟩⟩
theorem f_at (e : Ev) {j : Nat} (hj : j < 6) : e.cells[j]? = some (e.f j) := by
  match j, hj with
  | 0, _ => rfl
  | 1, _ => rfl
  | 2, _ => rfl
  | 3, _ => rfl
  | 4, _ => rfl
  | 5, _ => rfl
theorem slN_two (w : World) (a b : Ev) : SlArgN (w.alloc (.cells (a.cells ++ b.cells).toArray 25)) (some ⟨w.heap.size, 0, none⟩) 2 2 6 (fun i j => ((fun i => if i = 0 then a else b) i).f j) := by
  refine ⟨Nat.le_refl _, by decide, fun i hi => ⟨_, 0, rfl, by simp, fun j hj => ?_⟩⟩
  rw [cell_blk (heap_alloc_new w _)]
  rcases (show i = 0 ∨ i = 1 by omega) with rfl | rfl
  · show (a.cells ++ b.cells).toArray[0 + 0 * 6 + j]? = some (a.f j)
    rw [← f_at a hj]
    simp only [Nat.zero_mul, Nat.add_zero, Nat.zero_add, List.getElem?_toArray]
    rw [List.getElem?_append_left (by simp [Ev.cells]; omega)]
  · show (a.cells ++ b.cells).toArray[0 + 1 * 6 + j]? = some (b.f j)
    rw [← f_at b hj]
    simp only [Nat.zero_add, List.getElem?_toArray]
    rw [List.getElem?_append_right (by simp [Ev.cells])]
    congr 1
    simp [Ev.cells]
theorem slN_one (w : World) (a : Ev) : SlArgN (w.alloc (.cells a.cells.toArray 25)) (some ⟨w.heap.size, 0, none⟩) 1 1 6 (fun i j => ((fun _ => a) i).f j) := by
  refine ⟨Nat.le_refl _, by decide, fun i hi => ⟨_, 0, rfl, by simp, fun j hj => ?_⟩⟩
  rw [cell_blk (heap_alloc_new w _)]
  obtain rfl : i = 0 := by omega
  rw [← f_at a hj]
  simp
theorem twelveN {w w5 : World} {g : Nat} {x0 x1 x2 x3 x4 x5 x6 x7 x8 x9 x10 x11 : Value} (hk : Below w.heap.size w w5) (hg : g < w.heap.size) (H : w.cell? ⟨g, 0, none⟩ = some x0 ∧ w.cell? ⟨g, 1, none⟩ = some x1 ∧ w.cell? ⟨g, 2, none⟩ = some x2 ∧ w.cell? ⟨g, 3, none⟩ = some x3 ∧ w.cell? ⟨g, 4, none⟩ = some x4 ∧ w.cell? ⟨g, 5, none⟩ = some x5 ∧ w.cell? ⟨g, 6, none⟩ = some x6 ∧ w.cell? ⟨g, 7, none⟩ = some x7 ∧ w.cell? ⟨g, 8, none⟩ = some x8 ∧ w.cell? ⟨g, 9, none⟩ = some x9 ∧ w.cell? ⟨g, 10, none⟩ = some x10 ∧ w.cell? ⟨g, 11, none⟩ = some x11) : w5.cell? ⟨g, 0, none⟩ = some x0 ∧ w5.cell? ⟨g, 1, none⟩ = some x1 ∧ w5.cell? ⟨g, 2, none⟩ = some x2 ∧ w5.cell? ⟨g, 3, none⟩ = some x3 ∧ w5.cell? ⟨g, 4, none⟩ = some x4 ∧ w5.cell? ⟨g, 5, none⟩ = some x5 ∧ w5.cell? ⟨g, 6, none⟩ = some x6 ∧ w5.cell? ⟨g, 7, none⟩ = some x7 ∧ w5.cell? ⟨g, 8, none⟩ = some x8 ∧ w5.cell? ⟨g, 9, none⟩ = some x9 ∧ w5.cell? ⟨g, 10, none⟩ = some x10 ∧ w5.cell? ⟨g, 11, none⟩ = some x11 :=
  have key := fun (i : Nat) (x : Value) (h : w.cell? ⟨g, i, none⟩ = some x) => (hk.cell (p := ⟨g, i, none⟩) hg).trans h
  ⟨key _ _ H.1, key _ _ H.2.1, key _ _ H.2.2.1, key _ _ H.2.2.2.1, key _ _ H.2.2.2.2.1, key _ _ H.2.2.2.2.2.1, key _ _ H.2.2.2.2.2.2.1, key _ _ H.2.2.2.2.2.2.2.1, key _ _ H.2.2.2.2.2.2.2.2.1, key _ _ H.2.2.2.2.2.2.2.2.2.1, key _ _ H.2.2.2.2.2.2.2.2.2.2.1, key _ _ H.2.2.2.2.2.2.2.2.2.2.2⟩
end Go.Proofs.Ytbfipgeoecbpaaa
