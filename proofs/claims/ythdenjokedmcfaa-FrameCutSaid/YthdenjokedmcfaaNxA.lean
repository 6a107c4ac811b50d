/- Contract of coil.next. No condition but those that it names. -/
import Derived.Test.YthdenjokedmcfaaNx
import Derived.Test.YthdenjokedmcfaaCoilS
import Derived.Test.YthdenjokedmcfaaEvN
namespace Go.Proofs.Ythdenjokedmcfaa
open Go.RowKit
set_option maxRecDepth 20000
/-- Where next stands: the reader r at q; the event before boxed in g3, the answer's variable g4, the event in o. -/
structure NSt (w : World) (r : Nat) (s : ByteArray) (g3 g4 o : Nat) (b e : Ev) (q : Nat) (wr : World) : Prop where
  rd : IsRd wr r s q
  on : Only (fun k => k = r) w wr
  c3 : wr.heap[g3]? = some (.cells b.cells.toArray 85 (0, 0))
  c4 : wr.heap[g4]? = some (.cells (Ev.cells ⟨0, 0, 0, 0, 0, 0⟩).toArray 85 (0, 0))
  co : wr.heap[o]? = some (.cells e.cells.toArray 85 (0, 0))
  r3 : g3 ≠ r
  r4 : g4 ≠ r
  ro : o ≠ r
  d34 : g3 ≠ g4
  d3o : g3 ≠ o
  d4o : g4 ≠ o
  l3 : w.heap.size ≤ g3
  l4 : w.heap.size ≤ g4
  lo : w.heap.size ≤ o
theorem NSt.read {w : World} {r : Nat} {s : ByteArray} {g3 g4 o : Nat} {b e : Ev} {q q' : Nat} {wr w2 : World} (h : NSt w r s g3 g4 o b e q wr) (k : RdPost wr r s q' w2) : NSt w r s g3 g4 o b e q' w2 :=
  { h with rd := k.1, on := h.on.trans k.2 fun _ _ x => x, c3 := k.2.keeps h.c3 h.r3, c4 := k.2.keeps h.c4 h.r4, co := k.2.keeps h.co h.ro }
theorem NSt.below {w : World} {r : Nat} {s : ByteArray} {g3 g4 o : Nat} {b e : Ev} {q : Nat} {wr w2 : World} (h : NSt w r s g3 g4 o b e q wr) (k : Below wr.heap.size wr w2) : NSt w r s g3 g4 o b e q w2 :=
  { h with rd := h.rd.kept k, on := h.on.trans (Only.of_below k (fun _ => False)) fun _ _ x => x.elim, c3 := (k.block _ (blk_lt h.c3)).trans h.c3, c4 := (k.block _ (blk_lt h.c4)).trans h.c4, co := (k.block _ (blk_lt h.co)).trans h.co }
theorem NSt.alloc {w : World} {r : Nat} {s : ByteArray} {g3 g4 o : Nat} {b e : Ev} {q : Nat} {wr : World} (h : NSt w r s g3 g4 o b e q wr) (x : Obj) : NSt w r s g3 g4 o b e q (wr.alloc x) :=
  h.below ((Below.refl wr.heap.size wr).alloc (Nat.le_refl _) x)
/-- A store into the event. -/
theorem NSt.store {w : World} {r : Nat} {s : ByteArray} {g3 g4 o : Nat} {b e e' : Ev} {q : Nat} {wr : World} (h : NSt w r s g3 g4 o b e q wr) (i : Nat) (v : Value) (he : e.cells.toArray.setIfInBounds i v = e'.cells.toArray) : NSt w r s g3 g4 o b e' q (wr.setCell ⟨o, i, none⟩ v) :=
  { h with
    rd := blk_setCell_other (p := ⟨o, i, none⟩) h.rd h.ro.symm v
    on := h.on.setCell ⟨o, i, none⟩ v fun hx => absurd hx (Nat.not_lt.2 h.lo)
    c3 := blk_setCell_other (p := ⟨o, i, none⟩) h.c3 h.d3o v
    c4 := blk_setCell_other (p := ⟨o, i, none⟩) h.c4 h.d4o v
    co := by rw [← he]; exact blk_setCell h.co (i := i) v }
end Go.Proofs.Ythdenjokedmcfaa
