/- A recorder in memory; Frames, Open. No condition but those that each names. -/
import Derived.Test.YtbfipgeoecbpaaaRc
import Derived.Test.YtbfipgeoecbpaaaRgS
import Derived.Test.YtbfipgeoecbpaaaBH
import Derived.Test.YtbfipgeoecbpaaaBR
namespace Go.Proofs.Ytbfipgeoecbpaaa
open Go.RowKit
set_option linter.unusedVariables false
set_option linter.unusedSimpArgs false
set_option maxRecDepth 20000
def rcCells (tb rb room : Nat) (vo : Value) (sz : Nat) (e : Ev) (n : Nat) (cl : Bool) : Array Value :=
  #[.pointer (some ⟨tb, 0, none⟩), .pointer (some ⟨rb, 0, none⟩), .int .i64 room, vo, .int .i64 sz, .int .i64 e.k, .int .u64 e.cy, .int .u64 e.ct, .int .u32 e.a, .int .u32 e.b, .int .u32 e.v, .int .i64 n, .bool cl]
/-- A recorder's own memory, by its numbers. -/
structure RcB (w : World) (x tb rb room : Nat) (vo : Value) (op : List Ev) (sz : Nat) (e : Ev) (n : Nat) (cl : Bool) : Prop where
  me : w.heap[x]? = some (.cells (rcCells tb rb room vo sz e n cl) 102 (0, 0))
  own : w.ownsRow 0 25 6 vo op.length (evCells op)
theorem own_keep {w w' : World} {base : Nat} {e : TypeId} {size : Nat} {v : Value} {n : Nat} {xs : List Value} (h : w.ownsRow base e size v n xs) (k : ∀ g, v.ownBlock = some g → w'.heap[g]? = w.heap[g]?) : w'.ownsRow base e size v n xs := by
  obtain ⟨h1, h2⟩ := h
  refine ⟨h1, ?_⟩
  rcases h2 with h | ⟨g, cap, cur, rfl, h4, h5, h6⟩
  · exact .inl h
  · exact .inr ⟨g, cap, cur, rfl, h4, (k g rfl).trans h5, h6⟩
theorem own_ty {w : World} {base : Nat} {e : TypeId} {size : Nat} {v : Value} {n : Nat} {xs : List Value} (h : w.ownsRow base e size v n xs) {g : Nat} (hg : v.ownBlock = some g) : ∃ C, w.heap[g]? = some (.cells C e (0, 0)) := by
  rcases h.2 with ⟨rfl, _⟩ | ⟨g', cap, cur, rfl, _, h5, _⟩
  · cases hg
  · obtain rfl : g' = g := by simpa [Value.ownBlock] using hg
    exact ⟨cur, h5⟩
section
variable {w w' : World} {x tb rb room : Nat} {vo : Value} {op : List Ev} {sz : Nat} {e : Ev} {n : Nat} {cl : Bool}
theorem RcB.vx (h : RcB w x tb rb room vo op sz e n cl) : vo.ownBlock ≠ some x := by
  intro hg
  obtain ⟨C, hc⟩ := own_ty h.own hg
  have := h.me
  rw [hc] at this
  simp only [Option.some.injEq, Obj.cells.injEq] at this
  exact absurd this.2.1 (by decide)
theorem RcB.cells (h : RcB w x tb rb room vo op sz e n cl) (i : Nat) : w.cell? ⟨x, i, none⟩ = (rcCells tb rb room vo sz e n cl)[i]? := cell_blk h.me i
theorem RcB.frozen (h : RcB w x tb rb room vo op sz e n cl) (i : Nat) : w.frozen? ⟨x, i, none⟩ = false := frozen_blk h.me i
theorem RcB.only {S : Nat → Prop} (h : RcB w x tb rb room vo op sz e n cl) (o : Only S w w') (h1 : ¬ S x) (h2 : ∀ g, vo.ownBlock = some g → ¬ S g) : RcB w' x tb rb room vo op sz e n cl :=
  ⟨o.keeps h.me h1, own_keep h.own fun g hg => o.block g (by obtain ⟨C, hc⟩ := own_ty h.own hg; exact blk_lt hc) (h2 g hg)⟩
theorem RcB.below (h : RcB w x tb rb room vo op sz e n cl) (k : Below w.heap.size w w') : RcB w' x tb rb room vo op sz e n cl := h.only (Only.of_below k (fun _ => False)) (fun x => x) fun _ _ x => x
theorem RcB.own_set (h : RcB w x tb rb room vo op sz e n cl) (i : Nat) (v : Value) : (w.setCell ⟨x, i, none⟩ v).ownsRow 0 25 6 vo op.length (evCells op) :=
  own_keep h.own fun g hg => Below.heap_setCell _ _ _ _ (fun q => h.vx (by rw [hg, show g = x from q]))
theorem RcB.setSz (h : RcB w x tb rb room vo op sz e n cl) (u : Nat) : RcB (w.setCell ⟨x, 4, none⟩ (.int .i64 u)) x tb rb room vo op u e n cl :=
  ⟨(blk_setCell h.me (i := 4) _).trans (by simp [rcCells]), h.own_set _ _⟩
theorem RcB.setN (h : RcB w x tb rb room vo op sz e n cl) (u : Nat) : RcB (w.setCell ⟨x, 11, none⟩ (.int .i64 u)) x tb rb room vo op sz e u cl :=
  ⟨(blk_setCell h.me (i := 11) _).trans (by simp [rcCells]), h.own_set _ _⟩
theorem RcB.setCl (h : RcB w x tb rb room vo op sz e n cl) (u : Bool) : RcB (w.setCell ⟨x, 12, none⟩ (.bool u)) x tb rb room vo op sz e n u :=
  ⟨(blk_setCell h.me (i := 12) _).trans (by simp [rcCells]), h.own_set _ _⟩
theorem RcB.setOp (h : RcB w x tb rb room vo op sz e n cl) (v : Value) (l : List Ev) (ho : w.ownsRow 0 25 6 v l.length (evCells l)) : RcB (w.setCell ⟨x, 3, none⟩ v) x tb rb room v l sz e n cl := by
  refine ⟨(blk_setCell h.me (i := 3) _).trans (by simp [rcCells]), own_keep ho fun g hg => Below.heap_setCell _ _ _ _ (fun q => ?_)⟩
  obtain ⟨C, hc⟩ := own_ty ho hg
  have := h.me
  rw [← show g = x from q, hc] at this
  simp only [Option.some.injEq, Obj.cells.injEq] at this
  exact absurd this.2.1 (by decide)
theorem RcB.nilOp (h : RcB w x tb rb room vo op sz e n cl) : RcB (w.setCell ⟨x, 3, none⟩ (.slice none 0 0)) x tb rb room (.slice none 0 0) [] sz e n cl :=
  h.setOp _ [] (World.ownsRow_nil _ _ _ _)
theorem RcB.setLast (h : RcB w x tb rb room vo op sz e n cl) (f : Ev) : RcB ((((((w.setCell ⟨x, 5, none⟩ (.int .i64 f.k)).setCell ⟨x, 6, none⟩ (.int .u64 f.cy)).setCell ⟨x, 7, none⟩ (.int .u64 f.ct)).setCell ⟨x, 8, none⟩ (.int .u32 f.a)).setCell ⟨x, 9, none⟩ (.int .u32 f.b)).setCell ⟨x, 10, none⟩ (.int .u32 f.v)) x tb rb room vo op sz f n cl := by
  have step : ∀ {w : World} {C : Array Value} {i : Nat} {v : Value}, w.heap[x]? = some (.cells C 102 (0, 0)) → w.ownsRow 0 25 6 vo op.length (evCells op) → (w.setCell ⟨x, i, none⟩ v).heap[x]? = some (.cells (C.setIfInBounds i v) 102 (0, 0)) ∧ (w.setCell ⟨x, i, none⟩ v).ownsRow 0 25 6 vo op.length (evCells op) := by
    intro w C i v h1 h2
    refine ⟨blk_setCell h1 (i := i) v, own_keep h2 fun g hg => Below.heap_setCell _ _ _ _ (fun q => h.vx (by rw [hg, show g = x from q]))⟩
  obtain ⟨a1, b1⟩ := step (i := 5) (v := .int .i64 f.k) h.me h.own
  obtain ⟨a2, b2⟩ := step (i := 6) (v := .int .u64 f.cy) a1 b1
  obtain ⟨a3, b3⟩ := step (i := 7) (v := .int .u64 f.ct) a2 b2
  obtain ⟨a4, b4⟩ := step (i := 8) (v := .int .u32 f.a) a3 b3
  obtain ⟨a5, b5⟩ := step (i := 9) (v := .int .u32 f.b) a4 b4
  obtain ⟨a6, b6⟩ := step (i := 10) (v := .int .u32 f.v) a5 b5
  exact ⟨a6.trans (by simp [rcCells]), b6⟩
end
/-- A recorder with its ring. -/
structure RecM (w : World) (x tb rb room cap : Nat) (pol : Int) (R : Rcd) (L : List (List UInt8)) (lo : Nat) (vo : Value) (FR : Nat → Prop) : Prop where
  b : RcB w x tb rb room vo R.op (lB R.op).length R.last R.fr.length R.cl
  tab : IsTab w tb
  ring : RingL w rb cap pol L false lo FR
  xr : ¬ FR x
  tr : ¬ FR tb
  vr : ∀ g, vo.ownBlock = some g → ¬ FR g
  inv : R.Inv room
  rm : 20 ≤ room ∧ room ≤ 120
  pl : pol = 0 ∨ pol = 1
  cnt : lo + L.length = R.fr.length
def recF (x : Nat) (vo : Value) (FR : Nat → Prop) (k : Nat) : Prop := k = x ∨ vo.ownBlock = some k ∨ FR k
/-- .. within some blocks. -/
structure RecP (w : World) (x tb rb room cap : Nat) (pol : Int) (R : Rcd) (L : List (List UInt8)) (lo : Nat) (F : Nat → Prop) : Prop where
  m : ∃ vo FR, RecM w x tb rb room cap pol R L lo vo FR ∧ ∀ k, recF x vo FR k → F k
  foot : ∀ k, F k → k < w.heap.size
  tb : ¬ F tb
section
variable {w w' : World} {x tb rb room cap : Nat} {pol : Int} {R : Rcd} {L : List (List UInt8)} {lo : Nat} {F : Nat → Prop}
theorem RecP.only {S : Nat → Prop} (h : RecP w x tb rb room cap pol R L lo F) (o : Only S w w') (hn : ∀ k, F k → ¬ S k) (ht : ¬ S tb) : RecP w' x tb rb room cap pol R L lo F := by
  obtain ⟨vo, FR, m, hf⟩ := h.m
  exact ⟨⟨vo, FR, { m with b := m.b.only o (hn x (hf x (.inl rfl))) (fun g hg => hn g (hf g (.inr (.inl hg)))), tab := m.tab.only o ht, ring := m.ring.only o fun k hk => hn k (hf k (.inr (.inr hk))) }, hf⟩, fun k hk => Nat.lt_of_lt_of_le (h.foot k hk) o.size, h.tb⟩
theorem RecP.below (h : RecP w x tb rb room cap pol R L lo F) (k : Below w.heap.size w w') : RecP w' x tb rb room cap pol R L lo F := h.only (Only.of_below k (fun _ => False)) (fun _ _ x => x) fun x => x
theorem frames_any (h : RecP w x tb rb room cap pol R L lo F) : Calls Try.prog 19 #[.pointer (some ⟨x, 0, none⟩)] w fun e w' => e = .returned (.int .i64 R.fr.length) ∧ w = w' := by
  obtain ⟨vo, FR, m, hf⟩ := h.m
  have y := m.b.cells 11
  simp only [rcCells, List.getElem?_toArray, List.getElem?_cons_succ, List.getElem?_cons_zero] at y
  go_enter Try.func19, Try.ntmps19
  go_wp2_with fail
  go_ret
  exact ⟨rfl, rfl⟩
theorem open_any (h : RecP w x tb rb room cap pol R L lo F) : Calls Try.prog 20 #[.pointer (some ⟨x, 0, none⟩)] w fun e w' => e = .returned (.int .i64 R.op.length) ∧ w = w' := by
  obtain ⟨vo, FR, m, hf⟩ := h.m
  have y := m.b.cells 3
  obtain ⟨ao, c, rfl⟩ := owns_form m.b.own
  simp only [rcCells, List.getElem?_toArray, List.getElem?_cons_succ, List.getElem?_cons_zero] at y
  go_enter Try.func20, Try.ntmps20
  go_wp2_with fail
  go_ret
  exact ⟨rfl, rfl⟩
/-- What becomes of the ring where the recorder went from R to R'. -/
def FlRel (cap : Nat) (pol : Int) (R R' : Rcd) (L : List (List UInt8)) (lo : Nat) (L' : List (List UInt8)) (lo' : Nat) : Prop :=
  (R'.fr = R.fr ∧ L' = L ∧ lo' = lo) ∨ (R'.fr = R.fr ++ [R.op] ∧ R.op ≠ [] ∧ PutRel cap pol L lo (frT R.fr.length R.op) L' lo')
def FlushPost (w : World) (x tb rb room cap : Nat) (pol : Int) (R : Rcd) (L : List (List UInt8)) (lo : Nat) (F : Nat → Prop) (e : Ending) (w' : World) : Prop :=
  e = .returned (.tuple #[]) ∧ ∃ L' lo', FlRel cap pol R R.flush L lo L' lo' ∧ RecP w' x tb rb room cap pol R.flush L' lo' (grow F w w') ∧ Only F w w'
theorem RecP.same (h : RecP w x tb rb room cap pol R L lo F) : RecP w x tb rb room cap pol R L lo (grow F w w) := by
  obtain ⟨vo, FR, m, hf⟩ := h.m
  refine ⟨⟨vo, FR, m, fun k hk => .inl (hf k hk)⟩, grow_lt h.foot (Nat.le_refl _), fun hk => ?_⟩
  rcases hk with hk | hk
  · exact h.tb hk
  · omega
theorem RecP.tb_lt (h : RecP w x tb rb room cap pol R L lo F) : tb < w.heap.size := by
  obtain ⟨vo, FR, m, hf⟩ := h.m
  obtain ⟨C, h1, _⟩ := m.tab
  exact blk_lt h1
theorem grow_tb (h : RecP w x tb rb room cap pol R L lo F) : ¬ grow F w w' tb := by
  intro hk
  rcases hk with hk | hk
  · exact h.tb hk
  · have := h.tb_lt; omega
end
end Go.Proofs.Ytbfipgeoecbpaaa
