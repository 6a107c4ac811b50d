/- The law PipePumps between two calls: six things in memory, each of its own colour. No condition but those that each names. -/
import Derived.Test.YtbfipgeoecbpaaaPipeV
import Derived.Test.YtbfipgeoecbpaaaRrD
import Derived.Test.YtbfipgeoecbpaaaW24U
import Derived.Test.YtbfipgeoecbpaaaHuS
namespace Go.Proofs.Ytbfipgeoecbpaaa
open Go.WideShapes Go.Deep Go.RowKit
set_option linter.unusedVariables false
set_option linter.unusedSimpArgs false
set_option maxRecDepth 20000
theorem slArg_struct87 {H : Type} {enc : TypeId × Value → H} {W : World} {base : Nat} {held : Bool} {v : Value} {d : DataW H} {ps : List MemPlace}
    (hv : ∃ a len cap, v = .slice a len cap) (h : DataW.Trod enc Try.prog W base (fun _ => true) held 76 v d ps) :
    ∃ (oa : Option Addr) (len cap : Nat) (z : Nat → TuR), v = .slice oa len cap ∧ SlArgN W oa len cap 3 (fun i j => (z i).f j) ∧ SlLen d cap ∧ ∀ i, i < len → (z i).Wf := by
  obtain ⟨oa, len, cap, L, rfl, hs, hd, hx⟩ := slArgN_any (c := 3) Try.underlying76 (by kernel_rfl) (by decide) hv h
  have key : ∀ i, i < len → ∃ o : TuR, (∀ j, j < 3 → (L i).getD j (.bool false) = o.f j) ∧ o.Wf := by
    intro i hi
    obtain ⟨hl, n, x, hn⟩ := hx i hi
    match hL : L i, hl with
    | [c0, c1, c2], _ =>
      rw [hL] at hn
      obtain ⟨ys, n', _, _, _, hyl, hf⟩ := DataW.trod_struct Try.underlying87 hn
      have hyl : ys.length = 3 := hyl
      have k1 : Try.prog.cellsOf 3 = 1 := by kernel_rfl
      have k2 : Try.prog.cellsOf 9 = 1 := by kernel_rfl
      have h0 : DataW.trod enc Try.prog W base (fun _ => true) held n' 3 (List.take (Try.prog.cellsOf 3) [c0, c1, c2]) = ys[0]? := hf 0 _ rfl
      have h1 : DataW.trod enc Try.prog W base (fun _ => true) held n' 3 (List.take (Try.prog.cellsOf 3) [c1, c2]) = ys[1]? := hf 1 _ rfl
      have h2 : DataW.trod enc Try.prog W base (fun _ => true) held n' 9 (List.take (Try.prog.cellsOf 9) [c2]) = ys[2]? := hf 2 _ rfl
      rw [k1, List.getElem?_eq_getElem (by omega)] at h0 h1
      rw [k2, List.getElem?_eq_getElem (by omega)] at h2
      obtain ⟨z0, e0, _, w0⟩ := DataW.trod_int Try.underlying3 h0
      obtain ⟨z1, e1, _, w1⟩ := DataW.trod_int Try.underlying3 h1
      obtain ⟨z2, e2, _, w2⟩ := DataW.trod_string Try.underlying9 h2
      simp at e0 e1 e2
      subst e0 e1 e2
      obtain ⟨r0, r1⟩ := i64_of w0
      obtain ⟨r2, r3⟩ := i64_of w1
      refine ⟨⟨z0, z1, z2⟩, fun j hj => ?_, r0, r1, r2, r3, w2⟩
      match j, hj with
      | 0, _ => rfl
      | 1, _ => rfl
      | 2, _ => rfl
  obtain ⟨z, hz⟩ := Go.Deep.choose_lt (α := TuR) (p := fun i o => (∀ j, j < 3 → (L i).getD j (.bool false) = o.f j) ∧ o.Wf) key
  exact ⟨oa, len, cap, z, rfl, hs.congr fun i hi => (hz i hi).1, hd, fun i hi => (hz i hi).2⟩
/-- How many bytes there are in all. -/
def tot (L : List (List UInt8)) (l : List ByteArray) (T : ByteArray) : Nat := T.size + (l.map ByteArray.size).sum + L.flatten.length
/-- The state. -/
structure Pm where
  L : List (List UInt8)
  bg : Bool
  lo : Nat
  l : List ByteArray
  T : ByteArray
  p : Nat
  nx : Nat
  sk : Nat
  lo2 : Nat
def Pm.hs (S : Pm) : HS := ⟨[], S.p, S.nx, S.sk, S.lo2⟩
structure Nms where
  br : Nat
  bp : Nat
  c : Nat
  hb : Nat
  tb : Nat
  mr : Nat
  mq : Nat
  mh : Nat
structure PmB (w wr : World) (N : Nms) (room cap : Nat) (S S' : Pm) (P : Nat → Prop) (κ : Nat → Nat) (A U V : Nat → Prop) : Prop where
  ring : RingL wr N.br cap 0 S.L S.bg S.lo A
  pipe : IsPipe wr N.bp N.c room S.l false
  hun : Fed wr N.hb N.tb S.T S.hs false
  tab : IsTab wr N.tb
  rr : Rr wr N.mr cap S'.L S'.bg S'.lo U
  rp : RpV wr N.mq room S'.l V
  rh : IsRh wr N.mh S'.T S'.p S'.nx S'.sk S'.lo2 false
  cA : ∀ k, A k → κ k = 0
  cp : κ N.bp = 1 ∧ κ N.c = 1
  ch : κ N.hb = 2
  ct : κ N.tb = 3
  cU : ∀ k, U k → κ k = 4
  cV : ∀ k, V k → κ k = 5
  cm : κ N.mh = 6
  cP : ∀ k, P k → κ k = 7
  hP : ∀ k, P k → k < wr.heap.size
  out : ∀ k, k < w.heap.size → κ k = 9
  bel : Below w.heap.size w wr
structure PmSt (w wr : World) (N : Nms) (room cap : Nat) (S S' : Pm) (P : Nat → Prop) : Prop where
  b : ∃ κ A U V, PmB w wr N room cap S S' P κ A U V
def rec' (n : Nat) (κ : Nat → Nat) (i : Nat) (k : Nat) : Nat := if k < n then κ k else i
section
variable {w wr w2 : World} {N : Nms} {room cap : Nat} {S S' : Pm} {P : Nat → Prop} {κ : Nat → Nat} {A U V : Nat → Prop}
theorem PmB.lts (h : PmB w wr N room cap S S' P κ A U V) : N.bp < wr.heap.size ∧ N.c < wr.heap.size ∧ N.hb < wr.heap.size ∧ N.tb < wr.heap.size ∧ N.mh < wr.heap.size := by
  obtain ⟨s, r, h2⟩ := h.pipe.ch
  obtain ⟨C, h3, _⟩ := h.tab
  exact ⟨blk_lt h.pipe.blk, blk_lt h2, blk_lt h.hun.hu, blk_lt h3, blk_lt h.rh⟩
theorem PmB.below (h : PmB w wr N room cap S S' P κ A U V) (k : Below wr.heap.size wr w2) : PmB w w2 N room cap S S' P κ A U V :=
  { h with ring := h.ring.below k, pipe := h.pipe.only (Only.of_below k (fun _ => False)) (fun x => x) (fun x => x), hun := h.hun.below k, tab := h.tab.kept k, rr := h.rr.below k, rp := h.rp.below k, rh := (k.block _ (blk_lt h.rh)).trans h.rh, hP := fun i hi => Nat.lt_of_lt_of_le (h.hP i hi) k.size, bel := h.bel.trans (k.mono h.bel.size) }
theorem PmSt.below (h : PmSt w wr N room cap S S' P) (k : Below wr.heap.size wr w2) : PmSt w w2 N room cap S S' P := by
  obtain ⟨κ, A, U, V, b⟩ := h.b
  exact ⟨⟨κ, A, U, V, b.below k⟩⟩
theorem PmSt.with_block (h : PmSt w wr N room cap S S' P) (o : Obj) : PmSt w (wr.alloc o) N room cap S S' (fun k => k = wr.heap.size) := by
  obtain ⟨κ, A, U, V, b⟩ := h.b
  have k := (Below.refl wr.heap.size wr).alloc (Nat.le_refl _) o
  have b2 := b.below k
  obtain ⟨q1, q2, q3, q4, q5⟩ := b.lts
  refine ⟨⟨rec' wr.heap.size κ 7, A, U, V, { b2 with cA := fun i hi => ?_, cp := ?_, ch := ?_, ct := ?_, cU := fun i hi => ?_, cV := fun i hi => ?_, cm := ?_, cP := fun i hi => ?_, hP := fun i hi => by rw [hi]; simp, out := fun i hi => ?_ }⟩⟩
  · unfold rec'; rw [if_pos (b.ring.foot i hi)]; exact b.cA i hi
  · unfold rec'; rw [if_pos q1, if_pos q2]; exact b.cp
  · unfold rec'; rw [if_pos q3]; exact b.ch
  · unfold rec'; rw [if_pos q4]; exact b.ct
  · unfold rec'; rw [if_pos (b.rr.foot i hi)]; exact b.cU i hi
  · unfold rec'; rw [if_pos (b.rp.foot i hi)]; exact b.cV i hi
  · unfold rec'; rw [if_pos q5]; exact b.cm
  · unfold rec'; rw [if_neg (by rw [hi]; exact Nat.lt_irrefl _)]
  · unfold rec'; rw [if_pos (Nat.lt_of_lt_of_le hi b.bel.size)]; exact b.out i hi
theorem PmSt.forget (h : PmSt w wr N room cap S S' P) : PmSt w wr N room cap S S' (fun _ => False) := by
  obtain ⟨κ, A, U, V, b⟩ := h.b
  exact ⟨⟨κ, A, U, V, { b with cP := fun _ hi => hi.elim, hP := fun _ hi => hi.elim }⟩⟩
/-- One thing changes, of colour i: the colours behind it. -/
theorem PmB.recol (h : PmB w wr N room cap S S' P κ A U V) (i : Nat) (hs : wr.heap.size ≤ w2.heap.size) :
    (∀ k, A k → rec' wr.heap.size κ i k = 0) ∧ (rec' wr.heap.size κ i N.bp = 1 ∧ rec' wr.heap.size κ i N.c = 1) ∧ rec' wr.heap.size κ i N.hb = 2 ∧ rec' wr.heap.size κ i N.tb = 3 ∧ (∀ k, U k → rec' wr.heap.size κ i k = 4) ∧ (∀ k, V k → rec' wr.heap.size κ i k = 5) ∧ rec' wr.heap.size κ i N.mh = 6 ∧ (∀ k, P k → rec' wr.heap.size κ i k = 7) ∧ (∀ k, k < w.heap.size → rec' wr.heap.size κ i k = 9) ∧ ∀ k, wr.heap.size ≤ k → rec' wr.heap.size κ i k = i := by
  obtain ⟨q1, q2, q3, q4, q5⟩ := h.lts
  refine ⟨fun k hk => ?_, ?_, ?_, ?_, fun k hk => ?_, fun k hk => ?_, ?_, fun k hk => ?_, fun k hk => ?_, fun k hk => ?_⟩
  · unfold rec'; rw [if_pos (h.ring.foot k hk)]; exact h.cA k hk
  · unfold rec'; rw [if_pos q1, if_pos q2]; exact h.cp
  · unfold rec'; rw [if_pos q3]; exact h.ch
  · unfold rec'; rw [if_pos q4]; exact h.ct
  · unfold rec'; rw [if_pos (h.rr.foot k hk)]; exact h.cU k hk
  · unfold rec'; rw [if_pos (h.rp.foot k hk)]; exact h.cV k hk
  · unfold rec'; rw [if_pos q5]; exact h.cm
  · unfold rec'; rw [if_pos (h.hP k hk)]; exact h.cP k hk
  · unfold rec'; rw [if_pos (Nat.lt_of_lt_of_le hk h.bel.size)]; exact h.out k hk
  · unfold rec'; rw [if_neg (by omega)]
theorem PmB.keepBel {X : Nat → Prop} (h : PmB w wr N room cap S S' P κ A U V) (on : Only X wr w2) (hX : ∀ k, X k → κ k ≠ 9) : Below w.heap.size w w2 :=
  h.bel.trans (on.below h.bel.size fun i hi q => hX i q (h.out i hi))
theorem PmB.keepP {X : Nat → Prop} (h : PmB w wr N room cap S S' P κ A U V) (on : Only X wr w2) (hX : ∀ k, X k → κ k ≠ 7) : ∀ k o, P k → wr.heap[k]? = some o → w2.heap[k]? = some o :=
  fun k o hk ho => on.keeps ho fun q => hX k q (h.cP k hk)
end
end Go.Proofs.Ytbfipgeoecbpaaa
