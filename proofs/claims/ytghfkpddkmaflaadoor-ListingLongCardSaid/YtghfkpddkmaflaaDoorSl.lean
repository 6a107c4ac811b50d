/- A slice that came in, laid open for a walk: by index functions. -/
import Derived.Test.YtghfkpddkmaflaaDoorCore
import Derived.Test.YtghfkpddkmaflaaDoorRows
import Derived.ProofKit
import Derived.WalkKit
import Derived.Below
import Derived.Deep.Slices
import Derived.SliceStrings
import Derived.WideShapes
import Derived.SizedLaws
namespace Go.Proofs.YtghfkpddkmaflaaDoor
open Go.WideShapes Go.Deep Go.RowKit
set_option maxRecDepth 20000
/-- A slice's value, whose elements are one cell each: the cells hold F. -/
def SlArg (W : World) (oa : Option Addr) (len cap : Nat) (F : Nat → Value) : Prop :=
  len ≤ cap ∧ cap ≤ maxLen ∧ ∀ i, i < len → ∃ b off, oa = some ⟨b, off, none⟩ ∧ b < W.heap.size ∧ W.cell? ⟨b, off + i, none⟩ = some (F i)
theorem SlArg.nil (W : World) (F : Nat → Value) : SlArg W none 0 0 F := ⟨Nat.le_refl _, Nat.zero_le _, fun _ hi => absurd hi (Nat.not_lt_zero _)⟩
theorem laidOut : laidOutB Tryd.prog = true := by kernel_rfl
/-- How much room the datum says. -/
def SlLen {H : Type} (d : DataW H) (cap : Nat) : Prop := cap = 0 ∨ ∃ elems sp, d = .slice elems sp ∧ elems.length + sp.length = cap
theorem slReach {H : Type} {P : Program} {ts : List TypeId} {ds : List (DataW H)} {j : Nat} {t e : TypeId} {d : DataW H} {cap n : Nat} (h : (DataW.weightsEach P ts ds).all (· ≤ reachBytes) = true) (ht : ts[j]? = some t) (hd : ds[j]? = some d)
    (hu : P.underlying t = some (.slice e)) (hn : P.bytesOf e = n) (hx : SlLen d cap) : cap * n ≤ 140737488351232 := by
  rcases hx with rfl | ⟨elems, sp, rfl, rfl⟩
  · simp
  · have := sized_slice h ht hd hu
    rw [hn] at this
    exact this
section
variable {H : Type} {enc : TypeId × Value → H} {P : Program} {W : World} {base : Nat} {held : Bool}
theorem slArg_any {t e : TypeId} {v : Value} {d : DataW H} {ps : List MemPlace} (ht : P.underlying t = some (.slice e)) (hc : P.cellsOf e = 1) (hv : ∃ a len cap, v = .slice a len cap)
    (h : DataW.Trod enc P W base (fun _ => true) held t v d ps) : ∃ (oa : Option Addr) (len cap : Nat) (F : Nat → Value), v = .slice oa len cap ∧ SlArg W oa len cap F ∧ SlLen d cap ∧ ∀ i, i < len → ∃ n x, DataW.trod enc P W base (fun _ => true) held n e [F i] = some x := by
  obtain ⟨a, len, cap, rfl⟩ := hv
  obtain ⟨fuel, hf⟩ := h
  rcases open_slice1 ht hc hf with ⟨hcs, _⟩ | ⟨x, l, c, m, n, V, D, Pl, hcs, _, hl, hm, hmm, hxx, hx⟩
  · simp [Value.cells] at hcs
    obtain ⟨rfl, rfl, rfl⟩ := hcs
    exact ⟨none, 0, 0, fun _ => .bool false, rfl, SlArg.nil _ _, .inl rfl, fun i hi => absurd hi (Nat.not_lt_zero _)⟩
  · simp [Value.cells] at hcs
    obtain ⟨rfl, rfl, rfl⟩ := hcs
    simp only [if_true] at hmm
    have hlm : len ≤ m := by omega
    have hd : d = _ := congrArg Prod.fst hxx
    refine ⟨_, _, _, V, rfl, ⟨hl, hm, fun i hi => ?_⟩, .inr ⟨_, _, hd, by simp; omega⟩, fun i hi => ⟨n, _, (hx i (by omega)).2⟩⟩
    obtain ⟨b, off, spot⟩ := x
    have hs : spot = none := by simpa [Addr.add] using World.cell?_spot (hx 0 (by omega)).1
    subst hs
    have hcell := (hx i (by omega)).1
    rw [add_plain] at hcell
    exact ⟨b, off, rfl, World.block_lt_of_cell? W _ hcell, hcell⟩
theorem SlArg.congr {oa : Option Addr} {len cap : Nat} {F G : Nat → Value} (h : SlArg W oa len cap F) (e : ∀ i, i < len → F i = G i) : SlArg W oa len cap G :=
  ⟨h.1, h.2.1, fun i hi => by obtain ⟨b, off, h1, h2, h3⟩ := h.2.2 i hi; exact ⟨b, off, h1, h2, by rw [h3, e i hi]⟩⟩
/-- .. of integers. -/
theorem slArg_ints {t e : TypeId} {k : IntKind} {v : Value} {d : DataW H} {ps : List MemPlace} (ht : P.underlying t = some (.slice e)) (he : P.underlying e = some (.int k)) (hc : P.cellsOf e = 1) (hv : ∃ a len cap, v = .slice a len cap)
    (h : DataW.Trod enc P W base (fun _ => true) held t v d ps) : ∃ (oa : Option Addr) (len cap : Nat) (z : Nat → Int), v = .slice oa len cap ∧ SlArg W oa len cap (fun i => .int k (z i)) ∧ SlLen d cap ∧ ∀ i, i < len → (Lit.int k (z i)).wf = true := by
  obtain ⟨oa, len, cap, F, rfl, hs, hy, hx⟩ := slArg_any ht hc hv h
  have key : ∀ i, i < len → F i = .int k (match F i with | .int _ n => n | _ => 0) ∧ (Lit.int k (match F i with | .int _ n => n | _ => 0)).wf = true := by
    intro i hi
    obtain ⟨n, x, hn⟩ := hx i hi
    obtain ⟨z, e1, _, e2⟩ := DataW.trod_int he hn
    simp only [List.cons.injEq, and_true] at e1
    rw [e1]
    exact ⟨rfl, e2⟩
  exact ⟨oa, len, cap, _, rfl, hs.congr fun i hi => (key i hi).1, hy, fun i hi => (key i hi).2⟩
/-- .. of strings. -/
theorem slArg_strings {t e : TypeId} {v : Value} {d : DataW H} {ps : List MemPlace} (ht : P.underlying t = some (.slice e)) (he : P.underlying e = some .string) (hc : P.cellsOf e = 1) (hv : ∃ a len cap, v = .slice a len cap)
    (h : DataW.Trod enc P W base (fun _ => true) held t v d ps) : ∃ (oa : Option Addr) (len cap : Nat) (z : Nat → ByteArray), v = .slice oa len cap ∧ SlArg W oa len cap (fun i => .string (z i)) ∧ SlLen d cap ∧ ∀ i, i < len → (z i).size ≤ maxLen := by
  obtain ⟨oa, len, cap, F, rfl, hs, hy, hx⟩ := slArg_any ht hc hv h
  have key : ∀ i, i < len → F i = .string (match F i with | .string n => n | _ => ⟨#[]⟩) ∧ (match F i with | .string n => n | _ => (⟨#[]⟩ : ByteArray)).size ≤ maxLen := by
    intro i hi
    obtain ⟨n, x, hn⟩ := hx i hi
    obtain ⟨z, e1, _, e2⟩ := DataW.trod_string he hn
    simp only [List.cons.injEq, and_true] at e1
    rw [e1]
    exact ⟨rfl, e2⟩
  exact ⟨oa, len, cap, _, rfl, hs.congr fun i hi => (key i hi).1, hy, fun i hi => (key i hi).2⟩
/-- .. of bools. -/
theorem slArg_bools {t e : TypeId} {v : Value} {d : DataW H} {ps : List MemPlace} (ht : P.underlying t = some (.slice e)) (he : P.underlying e = some .bool) (hc : P.cellsOf e = 1) (hv : ∃ a len cap, v = .slice a len cap)
    (h : DataW.Trod enc P W base (fun _ => true) held t v d ps) : ∃ (oa : Option Addr) (len cap : Nat) (z : Nat → Bool), v = .slice oa len cap ∧ SlArg W oa len cap (fun i => .bool (z i)) ∧ SlLen d cap := by
  obtain ⟨oa, len, cap, F, rfl, hs, hy, hx⟩ := slArg_any ht hc hv h
  have key : ∀ i, i < len → F i = .bool (match F i with | .bool n => n | _ => false) := by
    intro i hi
    obtain ⟨n, x, hn⟩ := hx i hi
    obtain ⟨z, e1, _⟩ := DataW.trod_bool he hn
    simp only [List.cons.injEq, and_true] at e1
    rw [e1]
  exact ⟨oa, len, cap, _, rfl, hs.congr fun i hi => key i hi, hy⟩
end
/-- Behind blocks of our own the slice is as it was. -/
theorem SlArg.below {W w' : World} {oa : Option Addr} {len cap B : Nat} {F : Nat → Value} (h : SlArg W oa len cap F) (k : Below B W w') (hB : W.heap.size ≤ B) {i : Nat} (hi : i < len) :
    ∃ b off, oa = some ⟨b, off, none⟩ ∧ b < W.heap.size ∧ w'.cell? ⟨b, off + i, none⟩ = some (F i) := by
  obtain ⟨b, off, h1, h2, h3⟩ := h.2.2 i hi
  exact ⟨b, off, h1, h2, (k.cell (p := ⟨b, off + i, none⟩) (Nat.lt_of_lt_of_le h2 hB)).trans h3⟩
/-- A slice whose elements are c cells each. -/
def SlArgN (W : World) (oa : Option Addr) (len cap c : Nat) (F : Nat → Nat → Value) : Prop :=
  len ≤ cap ∧ cap ≤ maxLen ∧ ∀ i, i < len → ∃ b off, oa = some ⟨b, off, none⟩ ∧ b < W.heap.size ∧ ∀ j, j < c → W.cell? ⟨b, off + i * c + j, none⟩ = some (F i j)
theorem SlArgN.below {W w' : World} {oa : Option Addr} {len cap c B : Nat} {F : Nat → Nat → Value} (h : SlArgN W oa len cap c F) (k : Below B W w') (hB : W.heap.size ≤ B) {i : Nat} (hi : i < len) :
    ∃ b off, oa = some ⟨b, off, none⟩ ∧ b < W.heap.size ∧ ∀ j, j < c → w'.cell? ⟨b, off + i * c + j, none⟩ = some (F i j) := by
  obtain ⟨b, off, h1, h2, h3⟩ := h.2.2 i hi
  exact ⟨b, off, h1, h2, fun j hj => (k.cell (p := ⟨b, off + i * c + j, none⟩) (Nat.lt_of_lt_of_le h2 hB)).trans (h3 j hj)⟩
theorem SlArgN.congr {W : World} {oa : Option Addr} {len cap c : Nat} {F G : Nat → Nat → Value} (h : SlArgN W oa len cap c F) (e : ∀ i, i < len → ∀ j, j < c → F i j = G i j) : SlArgN W oa len cap c G :=
  ⟨h.1, h.2.1, fun i hi => by obtain ⟨b, off, h1, h2, h3⟩ := h.2.2 i hi; exact ⟨b, off, h1, h2, fun j hj => by rw [h3 j hj, e i hi j hj]⟩⟩
theorem slArgN_any {H : Type} {enc : TypeId × Value → H} {P : Program} {W : World} {base : Nat} {held : Bool} {t e c : Nat} {v : Value} {d : DataW H} {ps : List MemPlace} (ht : P.underlying t = some (.slice e)) (hc : P.cellsOf e = c) (hc0 : 0 < c)
    (hv : ∃ a len cap, v = .slice a len cap) (h : DataW.Trod enc P W base (fun _ => true) held t v d ps) :
    ∃ (oa : Option Addr) (len cap : Nat) (L : Nat → List Value), v = .slice oa len cap ∧ SlArgN W oa len cap c (fun i j => (L i).getD j (.bool false)) ∧ SlLen d cap ∧ ∀ i, i < len → (L i).length = c ∧ ∃ n x, DataW.trod enc P W base (fun _ => true) held n e (L i) = some x := by
  obtain ⟨a, len, cap, rfl⟩ := hv
  obtain ⟨fuel, hf⟩ := h
  rcases open_slice ht hf with ⟨hcs, _⟩ | ⟨x, l, cp, m, n, D, Pl, hcs, _, hl, hm, hmm, hxx, hx⟩
  · simp [Value.cells] at hcs
    obtain ⟨rfl, rfl, rfl⟩ := hcs
    exact ⟨none, 0, 0, fun _ => [], rfl, ⟨Nat.le_refl _, Nat.zero_le _, fun _ hi => absurd hi (Nat.not_lt_zero _)⟩, .inl rfl, fun i hi => absurd hi (Nat.not_lt_zero _)⟩
  · simp [Value.cells] at hcs
    obtain ⟨rfl, rfl, rfl⟩ := hcs
    simp only [if_true] at hmm
    have hd : d = _ := congrArg Prod.fst hxx
    rw [hc] at hx
    obtain ⟨L, hL⟩ := choose_lt (α := List Value) (p := fun i cs' => W.cells? base (x.add (i * c)) c = some cs' ∧ DataW.trod enc P W base (fun _ => true) held n e cs' = some (D i, Pl i)) hx
    have hat : ∀ i, i < len → (L i).length = c ∧ ∀ j, j < c → W.cell? ((x.add (i * c)).add j) = some ((L i).getD j (.bool false)) := by
      intro i hi
      obtain ⟨_, h1, h2⟩ := World.cells?_some (hL i (by omega)).1
      refine ⟨h1, fun j hj => ?_⟩
      rw [h2 j hj, List.getD_eq_getElem?_getD, List.getElem?_eq_getElem (by omega)]
      rfl
    refine ⟨_, _, _, L, rfl, ⟨hl, hm, fun i hi => ?_⟩, .inr ⟨_, _, hd, by simp; omega⟩, fun i hi => ⟨(hat i hi).1, n, _, (hL i (by omega)).2⟩⟩
    obtain ⟨b, off, spot⟩ := x
    have hs : spot = none := by simpa [Addr.add] using World.cell?_spot ((hat 0 (by omega)).2 0 hc0)
    subst hs
    refine ⟨b, off, rfl, ?_, fun j hj => ?_⟩
    · have h := (hat i hi).2 0 hc0
      rw [add_plain, add_plain] at h
      exact World.block_lt_of_cell? W _ h
    · have h := (hat i hi).2 j hj
      rw [add_plain, add_plain] at h
      exact h
end Go.Proofs.YtghfkpddkmaflaaDoor
