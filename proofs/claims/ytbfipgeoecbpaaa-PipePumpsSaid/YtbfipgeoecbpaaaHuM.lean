/- Items in memory; a hunter in memory. No condition. -/
import Derived.Test.YtbfipgeoecbpaaaHu
import Derived.Test.YtbfipgeoecbpaaaBS

namespace Go.Proofs.Ytbfipgeoecbpaaa
open Go.RowKit
set_option linter.unusedVariables false
set_option linter.unusedSimpArgs false
set_option maxRecDepth 20000
/-- An item as it lies in memory. -/
structure Itm where
  k : Int
  seq : Nat
  lost : Nat
  sv : Value
  evs : List Ev
def Itm.p (x : Itm) : PIt := (x.k, x.seq, x.lost, x.evs)
def Itm.cells (x : Itm) : List Value := [.int .i64 x.k, .int .u32 x.seq, .int .u32 x.lost, x.sv]
def Itm.f (x : Itm) : Nat → Value
  | 0 => .int .i64 x.k
  | 1 => .int .u32 x.seq
  | 2 => .int .u32 x.lost
  | _ => x.sv
instance : Inhabited Itm := ⟨⟨0, 0, 0, .slice none 0 0, []⟩⟩
def itCells (l : List Itm) : List Value := l.flatMap Itm.cells
theorem itCells_length (l : List Itm) : (itCells l).length = l.length * 4 := by
  induction l with
  | nil => rfl
  | cons e l ih => simp [itCells, Itm.cells] at ih ⊢; omega
theorem itCells_append (l m : List Itm) : itCells (l ++ m) = itCells l ++ itCells m := by simp [itCells]
theorem itCells_at : ∀ (l : List Itm) (i j : Nat), i < l.length → j < 4 → (itCells l)[i * 4 + j]? = some ((l.getD i default).f j)
  | [], i, _, h, _ => absurd h (Nat.not_lt_zero _)
  | e :: l, 0, j, _, hj => by
    match j, hj with
    | 0, _ => rfl
    | 1, _ => rfl
    | 2, _ => rfl
    | 3, _ => rfl
  | e :: l, i + 1, j, h, hj => by
    have ih := itCells_at l i j (by simpa using h) hj
    have e1 : itCells (e :: l) = e.cells ++ itCells l := rfl
    rw [e1, List.getElem?_append_right (by simp [Itm.cells]; omega)]
    have e2 : (i + 1) * 4 + j - e.cells.length = i * 4 + j := by simp [Itm.cells]; omega
    rw [e2, ih]
    rfl
/-- The item's events lie in memory. -/
def EvIn (w : World) (lo : Nat) (x : Itm) : Prop := (∃ ao cap, x.sv = .slice ao x.evs.length cap) ∧ w.ownsRow lo 25 6 x.sv x.evs.length (evCells x.evs)
structure ItIn (w : World) (lo : Nat) (v : Value) (l : List Itm) : Prop where
  own : w.ownsRow lo 49 4 v l.length (itCells l)
  evs : ∀ x ∈ l, EvIn w lo x
theorem EvIn.nil (w : World) (lo : Nat) (k : Int) (s t : Nat) : EvIn w lo ⟨k, s, t, .slice none 0 0, []⟩ := ⟨⟨none, 0, rfl⟩, World.ownsRow_nil _ _ _ _⟩
theorem EvIn.below {w w' : World} {lo : Nat} {x : Itm} (h : EvIn w lo x) (k : Below w.heap.size w w') : EvIn w' lo x := ⟨h.1, own_below h.2 k⟩
theorem EvIn.only {S : Nat → Prop} {w w' : World} {lo : Nat} {x : Itm} (h : EvIn w lo x) (o : Only S w w') (hS : ∀ k, S k → k < lo) : EvIn w' lo x := ⟨h.1, own_only h.2 o hS⟩
theorem EvIn.mono {w : World} {lo lo' : Nat} {x : Itm} (h : EvIn w lo x) (hl : lo' ≤ lo) : EvIn w lo' x := ⟨h.1, World.ownsRow.mono h.2 hl⟩
theorem ItIn.nil (w : World) (lo : Nat) : ItIn w lo (.slice none 0 0) [] := ⟨World.ownsRow_nil _ _ _ _, fun x hx => by cases hx⟩
theorem ItIn.below {w w' : World} {lo : Nat} {v : Value} {l : List Itm} (h : ItIn w lo v l) (k : Below w.heap.size w w') : ItIn w' lo v l := ⟨own_below h.own k, fun x hx => (h.evs x hx).below k⟩
theorem ItIn.only {S : Nat → Prop} {w w' : World} {lo : Nat} {v : Value} {l : List Itm} (h : ItIn w lo v l) (o : Only S w w') (hS : ∀ k, S k → k < lo) : ItIn w' lo v l := ⟨own_only h.own o hS, fun x hx => (h.evs x hx).only o hS⟩
theorem ItIn.mono {w : World} {lo lo' : Nat} {v : Value} {l : List Itm} (h : ItIn w lo v l) (hl : lo' ≤ lo) : ItIn w lo' v l := ⟨World.ownsRow.mono h.own hl, fun x hx => (h.evs x hx).mono hl⟩
theorem own_grow {w w' : World} {base base' : Nat} {e e' : TypeId} {size size' : Nat} {v v' : Value} {n n' : Nat} {xs xs' : List Value} (h : w.ownsRow base e size v n xs) (hI : w.ownsRow base' e' size' v' n' xs') (hne : e ≠ e') (hg : w.grownBy w' v'.ownBlock) : w'.ownsRow base e size v n xs := by
  rcases h.2 with h0 | ⟨g, cap, cur, rfl, hbg, hb, hr⟩
  · exact ⟨h.1, .inl h0⟩
  · refine ⟨h.1, .inr ⟨g, cap, cur, rfl, hbg, ?_, hr⟩⟩
    refine (hg.block g (blk_lt hb) fun x => ?_).trans hb
    rcases hI.2 with ⟨h1, _⟩ | ⟨g', cap', cur', rfl, _, hb', _⟩
    · rw [h1] at x; cases x
    · have x2 : g' = g := Eq.symm (by simpa [Value.ownBlock] using x)
      subst x2
      rw [hb] at hb'
      simp only [Option.some.injEq, Obj.cells.injEq] at hb'
      exact hne hb'.2.1
theorem ItIn.grow {w w' : World} {lo : Nat} {v v' : Value} {l m : List Itm} (h : ItIn w lo v l) (hm : ∀ x ∈ m, EvIn w lo x) (hg : w.grownBy w' v.ownBlock) (ho : w'.ownsRow lo 49 4 v' (l.length + m.length) (itCells l ++ itCells m)) : ItIn w' lo v' (l ++ m) := by
  refine ⟨by rw [itCells_append, List.length_append]; exact ho, fun x hx => ?_⟩
  have hk : EvIn w lo x := by
    rcases List.mem_append.1 hx with hx | hx
    · exact h.evs x hx
    · exact hm x hx
  exact ⟨hk.1, own_grow hk.2 h.own (by decide) hg⟩
theorem itm_info : ∃ i, Try.prog.info? 49 = some i ∧ i.zero = some (.agg #[.int .i64 0, .int .u32 0, .int .u32 0, .slice none 0 0]) ∧ i.size = 4 ∧ i.bytes = 40 := by
  have h : Try.prog.info? 49 = some ((Try.prog.info? 49).get (by kernel_rfl)) := (Option.some_get _).symm
  exact ⟨_, h, by kernel_rfl, by kernel_rfl, by kernel_rfl⟩
theorem ul_items : Try.prog.underlying 45 = some (.slice 49) := by kernel_rfl
theorem itCells_one {w : World} {lo : Nat} {l : List Itm} (h : ∀ x ∈ l, EvIn w lo x) : ∀ u ∈ itCells l, u.oneCell' = true := by
  intro u hu
  simp only [itCells, List.mem_flatMap] at hu
  obtain ⟨e, he, hc⟩ := hu
  obtain ⟨ao, cap, hsv⟩ := (h e he).1
  simp only [Itm.cells, List.mem_cons, List.not_mem_nil, or_false] at hc
  rcases hc with rfl | rfl | rfl | rfl
  · rfl
  · rfl
  · rfl
  · rw [hsv]; rfl
theorem src_it (w : World) (x : Itm) : Src (w.alloc (.cells #[.int .i64 x.k, .int .u32 x.seq, .int .u32 x.lost, x.sv] 49)) (.slice (some ⟨w.heap.size, 0, none⟩) 1 1) 1 (itCells [x]) := by
  refine .inr ⟨_, 1, rfl, fun j u hj => ?_⟩
  rw [Go.WideShapes.add_plain, cell_blk (heap_alloc_new w _)]
  have e1 : itCells [x] = x.cells := by simp [itCells]
  rw [e1] at hj
  rw [← hj, Nat.zero_add]
  simp [Itm.cells]
theorem src_own {w : World} {base : Nat} {e : TypeId} {size : Nat} {ao : Option Addr} {cap n : Nat} {xs : List Value} (h : w.ownsRow base e size (.slice ao n cap) n xs) (hn : xs.length = n * size) : Src w (.slice ao n cap) n xs := by
  rcases h.2 with ⟨h1, h2⟩ | ⟨g, cp, cur, h1, _, hb, hnc, hcm, hrest⟩
  · simp only [Value.slice.injEq] at h1
    obtain ⟨rfl, rfl, rfl⟩ := h1
    have : xs = [] := List.length_eq_zero_iff.1 (by simpa using hn)
    exact .inl ⟨rfl, rfl, this⟩
  · simp only [Value.slice.injEq] at h1
    obtain ⟨rfl, _, rfl⟩ := h1
    refine .inr ⟨_, _, rfl, fun j u hj => ?_⟩
    exact h.cells rfl j u hj
/-- Block b is a hunter. -/
def IsHu (w : World) (b tb : Nat) (Y : ByteArray) (nx sk lo : Nat) (cl : Bool) : Prop := w.heap[b]? = some (.cells #[.pointer (some ⟨tb, 0, none⟩), .string Y, .int .u64 nx, .int .u64 sk, .int .u64 lo, .bool cl] 119 (0, 0))
theorem IsHu.cells {w : World} {b tb : Nat} {Y : ByteArray} {nx sk lo : Nat} {cl : Bool} (h : IsHu w b tb Y nx sk lo cl) : w.cell? ⟨b, 0, none⟩ = some (.pointer (some ⟨tb, 0, none⟩)) ∧ w.cell? ⟨b, 1, none⟩ = some (.string Y) ∧ w.cell? ⟨b, 2, none⟩ = some (.int .u64 nx) ∧ w.cell? ⟨b, 3, none⟩ = some (.int .u64 sk) ∧ w.cell? ⟨b, 4, none⟩ = some (.int .u64 lo) ∧ w.cell? ⟨b, 5, none⟩ = some (.bool cl) := by
  refine ⟨?_, ?_, ?_, ?_, ?_, ?_⟩ <;> (rw [cell_blk h]; rfl)
theorem IsHu.frozen {w : World} {b tb : Nat} {Y : ByteArray} {nx sk lo : Nat} {cl : Bool} (h : IsHu w b tb Y nx sk lo cl) (i : Nat) : w.frozen? ⟨b, i, none⟩ = false := frozen_blk h i
theorem IsHu.below {w w' : World} {b tb : Nat} {Y : ByteArray} {nx sk lo : Nat} {cl : Bool} (h : IsHu w b tb Y nx sk lo cl) (k : Below w.heap.size w w') : IsHu w' b tb Y nx sk lo cl := (k.block b (blk_lt h)).trans h
theorem IsHu.grow {w w' : World} {b tb : Nat} {Y : ByteArray} {nx sk lo : Nat} {cl : Bool} {base : Nat} {e : TypeId} {size : Nat} {v : Value} {n : Nat} {xs : List Value} (h : IsHu w b tb Y nx sk lo cl) (hI : w.ownsRow base e size v n xs) (hb : b < base) (hg : w.grownBy w' v.ownBlock) : IsHu w' b tb Y nx sk lo cl :=
  (hg.block b (blk_lt h) fun x => by have := (hI.lt b x.symm).1; omega).trans h
theorem IsHu.set1 {w : World} {b tb : Nat} {Y : ByteArray} {nx sk lo : Nat} {cl : Bool} (h : IsHu w b tb Y nx sk lo cl) (Z : ByteArray) : IsHu (w.setCell ⟨b, 1, none⟩ (.string Z)) b tb Z nx sk lo cl := blk_setCell h (i := 1) (.string Z)
theorem IsHu.set2 {w : World} {b tb : Nat} {Y : ByteArray} {nx sk lo : Nat} {cl : Bool} (h : IsHu w b tb Y nx sk lo cl) (m : Nat) : IsHu (w.setCell ⟨b, 2, none⟩ (.int .u64 m)) b tb Y m sk lo cl := blk_setCell h (i := 2) (.int .u64 m)
theorem IsHu.set3 {w : World} {b tb : Nat} {Y : ByteArray} {nx sk lo : Nat} {cl : Bool} (h : IsHu w b tb Y nx sk lo cl) (m : Nat) : IsHu (w.setCell ⟨b, 3, none⟩ (.int .u64 m)) b tb Y nx m lo cl := blk_setCell h (i := 3) (.int .u64 m)
theorem IsHu.set4 {w : World} {b tb : Nat} {Y : ByteArray} {nx sk lo : Nat} {cl : Bool} (h : IsHu w b tb Y nx sk lo cl) (m : Nat) : IsHu (w.setCell ⟨b, 4, none⟩ (.int .u64 m)) b tb Y nx sk m cl := blk_setCell h (i := 4) (.int .u64 m)
theorem IsHu.set5 {w : World} {b tb : Nat} {Y : ByteArray} {nx sk lo : Nat} {cl : Bool} (h : IsHu w b tb Y nx sk lo cl) (c : Bool) : IsHu (w.setCell ⟨b, 5, none⟩ (.bool c)) b tb Y nx sk lo c := blk_setCell h (i := 5) (.bool c)
end Go.Proofs.Ytbfipgeoecbpaaa
