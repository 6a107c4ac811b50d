/- A bundle of: NxA NxB. -/
import Derived.Test.YtbfipgeoecbpaaaBL
import Derived.Test.YtbfipgeoecbpaaaBC
import Derived.Test.YtbfipgeoecbpaaaBE
/- Contract of coil.next. No condition but those that it names. -/
namespace Go.Proofs.Ytbfipgeoecbpaaa
open Go.RowKit
set_option maxRecDepth 20000
/-- Where next stands: the reader r at q; the event before boxed in g3, the answer's variable g4, the event in o. -/
structure NSt (w : World) (r : Nat) (s : ByteArray) (g3 g4 o : Nat) (b e : Ev) (q : Nat) (wr : World) : Prop where
  rd : IsRd wr r s q
  on : Only (fun k => k = r) w wr
  c3 : wr.heap[g3]? = some (.cells b.cells.toArray 25 (0, 0))
  c4 : wr.heap[g4]? = some (.cells (Ev.cells ⟨0, 0, 0, 0, 0, 0⟩).toArray 25 (0, 0))
  co : wr.heap[o]? = some (.cells e.cells.toArray 25 (0, 0))
  r3 : g3 ≠ r
  r4 : g4 ≠ r
  ro : o ≠ r
  d34 : g3 ≠ g4
  d3o : g3 ≠ o
  d4o : g4 ≠ o
  l3 : w.heap.size ≤ g3
  l4 : w.heap.size ≤ g4
  lo : w.heap.size ≤ o
theorem NSt.read {w : World} {r : Nat} {s : ByteArray} {g3 g4 o : Nat} {b e : Ev} {q q' : Nat} {wr w2 : World} (h : NSt w r s g3 g4 o b e q wr) (k : RdPost wr r s q' w2) : NSt w r s g3 g4 o b e q' w2 :=
  { h with rd := k.1, on := h.on.trans k.2 fun _ _ x => x, c3 := k.2.keeps h.c3 h.r3, c4 := k.2.keeps h.c4 h.r4, co := k.2.keeps h.co h.ro }
theorem NSt.below {w : World} {r : Nat} {s : ByteArray} {g3 g4 o : Nat} {b e : Ev} {q : Nat} {wr w2 : World} (h : NSt w r s g3 g4 o b e q wr) (k : Below wr.heap.size wr w2) : NSt w r s g3 g4 o b e q w2 :=
  { h with rd := h.rd.kept k, on := h.on.trans (Only.of_below k (fun _ => False)) fun _ _ x => x.elim, c3 := (k.block _ (blk_lt h.c3)).trans h.c3, c4 := (k.block _ (blk_lt h.c4)).trans h.c4, co := (k.block _ (blk_lt h.co)).trans h.co }
theorem NSt.alloc {w : World} {r : Nat} {s : ByteArray} {g3 g4 o : Nat} {b e : Ev} {q : Nat} {wr : World} (h : NSt w r s g3 g4 o b e q wr) (x : Obj) : NSt w r s g3 g4 o b e q (wr.alloc x) :=
  h.below ((Below.refl wr.heap.size wr).alloc (Nat.le_refl _) x)
/-- A store into the event. -/
theorem NSt.store {w : World} {r : Nat} {s : ByteArray} {g3 g4 o : Nat} {b e e' : Ev} {q : Nat} {wr : World} (h : NSt w r s g3 g4 o b e q wr) (i : Nat) (v : Value) (he : e.cells.toArray.setIfInBounds i v = e'.cells.toArray) : NSt w r s g3 g4 o b e' q (wr.setCell ⟨o, i, none⟩ v) :=
  { h with
    rd := blk_setCell_other (p := ⟨o, i, none⟩) h.rd h.ro.symm v
    on := h.on.setCell ⟨o, i, none⟩ v fun hx => absurd hx (Nat.not_lt.2 h.lo)
    c3 := blk_setCell_other (p := ⟨o, i, none⟩) h.c3 h.d3o v
    c4 := blk_setCell_other (p := ⟨o, i, none⟩) h.c4 h.d4o v
    co := by rw [← he]; exact blk_setCell h.co (i := i) v }
end Go.Proofs.Ytbfipgeoecbpaaa
/- Contract of coil.next. No condition but those that it names. -/
namespace Go.Proofs.Ytbfipgeoecbpaaa
open Go.RowKit
set_option maxRecDepth 20000
/-- Where the loop over an event's three numbers stands. -/
def LpSt (s : ByteArray) (p : Nat) (c : Nat) (i q : Nat) (e : Ev) : Prop := (i = 0 ∧ q = (n2 s p).2.2 ∧ e = ⟨c, 0, 0, 0, 0, 0⟩) ∨ (i = 1 ∧ (nA s p).2.1 = 0 ∧ q = (nA s p).2.2 ∧ e = ⟨c, 0, 0, (nA s p).1, 0, 0⟩) ∨ (i = 2 ∧ (nA s p).2.1 = 0 ∧ (nB s p).2.1 = 0 ∧ q = (nB s p).2.2 ∧ e = ⟨c, 0, 0, (nA s p).1, (nB s p).1, 0⟩) ∨ (i = 3 ∧ (nA s p).2.1 = 0 ∧ (nB s p).2.1 = 0 ∧ (nV s p).2.1 = 0 ∧ q = (nV s p).2.2 ∧ e = ⟨c, 0, 0, (nA s p).1, (nB s p).1, (nV s p).1⟩)
theorem has3 {w : World} {h : Nat} {xa xb xv : Bool} (s : w.heap[h]? = some (.cells #[.bool xa, .bool xb, .bool xv] 144 (0, 0))) : w.cell? ⟨h, 0, none⟩ = some (.bool xa) ∧ w.cell? ⟨h, 1, none⟩ = some (.bool xb) ∧ w.cell? ⟨h, 2, none⟩ = some (.bool xv) :=
  ⟨by rw [cell_blk s]; rfl, by rw [cell_blk s]; rfl, by rw [cell_blk s]; rfl⟩
/-- What next leaves. -/
def NxPost (w : World) (r : Nat) (s : ByteArray) (cy ct p : Nat) (x : Ending) (w' : World) : Prop :=
  ∃ (e : Ev) (q : Nat), x = .returned (.tuple #[e.val, .int .i64 (nxT cy ct s p)]) ∧ (nxT cy ct s p = 0 → e = nxEv cy ct s p ∧ q = (nV s p).2.2) ∧ IsRd w' r s q ∧ q ≤ s.size ∧ Only (fun k => k = r) w w'
theorem nx_bad {w wr : World} {r : Nat} {s : ByteArray} {g3 g4 o cy ct p q : Nat} {b e : Ev} {er : Nat} {v : Value} {X : Int} (h : NSt w r s g3 g4 o b e q wr) (hq : q ≤ s.size) (hE : nxE s p = er) (h0 : er ≠ 0) (hv : v = e.val) (hX : X = er) (w' : World)
    (h4 : w' = (((((wr.setCell ⟨g4, 0, none⟩ (.int .i64 e.k)).setCell ⟨g4, 1, none⟩ (.int .u64 e.cy)).setCell ⟨g4, 2, none⟩ (.int .u64 e.ct)).setCell ⟨g4, 3, none⟩ (.int .u32 e.a)).setCell ⟨g4, 4, none⟩ (.int .u32 e.b)).setCell ⟨g4, 5, none⟩ (.int .u32 e.v)) :
    NxPost w r s cy ct p (.returned (.tuple #[v, .int .i64 X])) w' := by
  subst hv hX h4
  have hT : nxT cy ct s p = er := by unfold nxT; rw [hE, if_neg h0]
  refine ⟨e, q, by rw [hT], fun h => absurd h (by rw [hT]; omega), ?_, hq, ?_⟩
  · exact blk_setCell_other (p := ⟨g4, 5, none⟩) (blk_setCell_other (p := ⟨g4, 4, none⟩) (blk_setCell_other (p := ⟨g4, 3, none⟩) (blk_setCell_other (p := ⟨g4, 2, none⟩) (blk_setCell_other (p := ⟨g4, 1, none⟩) (blk_setCell_other (p := ⟨g4, 0, none⟩) h.rd h.r4.symm _) h.r4.symm _) h.r4.symm _) h.r4.symm _) h.r4.symm _) h.r4.symm _
  · have hl := h.l4
    exact (((((h.on.setCell ⟨g4, 0, none⟩ _ fun hx => absurd hx (Nat.not_lt.2 hl)).setCell ⟨g4, 1, none⟩ _ fun hx => absurd hx (Nat.not_lt.2 hl)).setCell ⟨g4, 2, none⟩ _ fun hx => absurd hx (Nat.not_lt.2 hl)).setCell ⟨g4, 3, none⟩ _ fun hx => absurd hx (Nat.not_lt.2 hl)).setCell ⟨g4, 4, none⟩ _ fun hx => absurd hx (Nat.not_lt.2 hl)).setCell ⟨g4, 5, none⟩ _ fun hx => absurd hx (Nat.not_lt.2 hl)
theorem most_any {x : World} {r : Nat} {s : ByteArray} {q : Nat} (h : IsRd x r s q) (hq : q ≤ s.size) (hs : s.size ≤ 140737488355328) :
    Calls Try.prog 136 #[.pointer (some ⟨r, 0, none⟩), .int .u64 4294967295] x fun e w' => e = .returned (.tuple #[.int .u64 (lmost s q M32).1, .int .i64 (lmost s q M32).2.1]) ∧ RdPost x r s (lmost s q M32).2.2 w' := lmost_any h hq hs M32
theorem nxT_bad {cy ct p : Nat} {s : ByteArray} (h : nxE s p = 0) (h2 : nxOk cy ct s p = false) : nxT cy ct s p = 5 := by
  unfold nxT; rw [if_pos h, h2]; rfl
theorem nx_out {w wr : World} {r : Nat} {s : ByteArray} {g3 g4 o cy ct p q : Nat} {b e : Ev} {v : Value} {X : Int} (h : NSt w r s g3 g4 o b e q wr) (hq : q ≤ s.size) (hT : nxT cy ct s p = X) (h0 : X = 0 → e = nxEv cy ct s p ∧ q = (nV s p).2.2) (hv : v = e.val) (w' : World)
    (h4 : w' = (((((wr.setCell ⟨g4, 0, none⟩ (.int .i64 e.k)).setCell ⟨g4, 1, none⟩ (.int .u64 e.cy)).setCell ⟨g4, 2, none⟩ (.int .u64 e.ct)).setCell ⟨g4, 3, none⟩ (.int .u32 e.a)).setCell ⟨g4, 4, none⟩ (.int .u32 e.b)).setCell ⟨g4, 5, none⟩ (.int .u32 e.v)) :
    NxPost w r s cy ct p (.returned (.tuple #[v, .int .i64 X])) w' := by
  subst hv h4
  refine ⟨e, q, by rw [hT], fun h => h0 (hT.symm.trans h), ?_, hq, ?_⟩
  · exact blk_setCell_other (p := ⟨g4, 5, none⟩) (blk_setCell_other (p := ⟨g4, 4, none⟩) (blk_setCell_other (p := ⟨g4, 3, none⟩) (blk_setCell_other (p := ⟨g4, 2, none⟩) (blk_setCell_other (p := ⟨g4, 1, none⟩) (blk_setCell_other (p := ⟨g4, 0, none⟩) h.rd h.r4.symm _) h.r4.symm _) h.r4.symm _) h.r4.symm _) h.r4.symm _) h.r4.symm _
  · have hl := h.l4
    exact (((((h.on.setCell ⟨g4, 0, none⟩ _ fun hx => absurd hx (Nat.not_lt.2 hl)).setCell ⟨g4, 1, none⟩ _ fun hx => absurd hx (Nat.not_lt.2 hl)).setCell ⟨g4, 2, none⟩ _ fun hx => absurd hx (Nat.not_lt.2 hl)).setCell ⟨g4, 3, none⟩ _ fun hx => absurd hx (Nat.not_lt.2 hl)).setCell ⟨g4, 4, none⟩ _ fun hx => absurd hx (Nat.not_lt.2 hl)).setCell ⟨g4, 5, none⟩ _ fun hx => absurd hx (Nat.not_lt.2 hl)
set_option maxHeartbeats 8000000 in
theorem next_any {w : World} {r : Nat} {s : ByteArray} {p : Nat} (h : IsRd w r s p) (hp : p < s.size) (hs : s.size ≤ 140737488355328) (b : Ev) (hb : b.Wf) :
    Calls Try.prog 127 #[.pointer (some ⟨r, 0, none⟩), b.val] w (NxPost w r s b.cy b.ct p) := by
  obtain ⟨k', cy', ct', a', b', v'⟩ := b
  have hc3 : ((w.alloc (.cells #[.int .i64 k', .int .u64 cy', .int .u64 ct', .int .u32 a', .int .u32 b', .int .u32 v'] 25)).alloc (.cells #[.int .i64 0, .int .u64 0, .int .u64 0, .int .u32 0, .int .u32 0, .int .u32 0] 25)).heap[w.heap.size]? = some (.cells (Ev.cells ⟨k', cy', ct', a', b', v'⟩).toArray 25 (0, 0)) := blk_alloc (heap_alloc_new w _) _
  have hc4 : ((w.alloc (.cells #[.int .i64 k', .int .u64 cy', .int .u64 ct', .int .u32 a', .int .u32 b', .int .u32 v'] 25)).alloc (.cells #[.int .i64 0, .int .u64 0, .int .u64 0, .int .u32 0, .int .u32 0, .int .u32 0] 25)).heap[w.heap.size + 1]? = some (.cells (Ev.cells ⟨0, 0, 0, 0, 0, 0⟩).toArray 25 (0, 0)) := by
    have := heap_alloc_new (w.alloc (.cells #[.int .i64 k', .int .u64 cy', .int .u64 ct', .int .u32 a', .int .u32 b', .int .u32 v'] 25)) (.cells #[.int .i64 0, .int .u64 0, .int .u64 0, .int .u32 0, .int .u32 0, .int .u32 0] 25)
    simpa [Ev.cells] using this
  have hon : Only (fun k => k = r) w ((w.alloc (.cells #[.int .i64 k', .int .u64 cy', .int .u64 ct', .int .u32 a', .int .u32 b', .int .u32 v'] 25)).alloc (.cells #[.int .i64 0, .int .u64 0, .int .u64 0, .int .u32 0, .int .u32 0, .int .u32 0] 25)) := ((Only.refl _ w).alloc _).alloc _
  have hrd : IsRd ((w.alloc (.cells #[.int .i64 k', .int .u64 cy', .int .u64 ct', .int .u32 a', .int .u32 b', .int .u32 v'] 25)).alloc (.cells #[.int .i64 0, .int .u64 0, .int .u64 0, .int .u32 0, .int .u32 0, .int .u32 0] 25)) r s p := h.only (((Only.refl (fun _ => False) w).alloc _).alloc _) (fun x => x)
  have hrw := blk_lt h
  obtain ⟨c, hc⟩ : ∃ c : Nat, c = bt s p := ⟨_, rfl⟩
  have hby : by1 s p = ((c : Int), 0, p + 1) := by rw [hc, bt_of hp]; simp [by1, hp]
  have hcl : c < 256 := by rw [hc]; exact bt_lt s p
  have HC := Lib.hid hc
  have hwf := hb
  clear h hc hb
  unfold Ev.val
  simp only
  go_enter Try.func127, Try.ntmps127
  go_wp2_with fail
  obtain ⟨g3, h3⟩ : ∃ g3, g3 = w.heap.size := ⟨_, rfl⟩
  rw [← h3] at hc3 hc4 ⊢
  obtain ⟨g4, h4⟩ : ∃ g4, g4 = g3 + 1 := ⟨_, rfl⟩
  rw [← h4] at hc4 ⊢
  generalize (w.alloc (.cells #[.int .i64 k', .int .u64 cy', .int .u64 ct', .int .u32 a', .int .u32 b', .int .u32 v'] 25)).alloc (.cells #[.int .i64 0, .int .u64 0, .int .u64 0, .int .u32 0, .int .u32 0, .int .u32 0] 25) = W at hc3 hc4 hon hrd ⊢
  have i1 : w.heap.size ≤ g3 := by omega
  have i2 : r < g3 := by omega
  have i3 : g3 < g4 := by omega
  clear h3 h4
  have hbyte := byte_any hrd (Nat.le_of_lt hp) hs
  rw [hby] at hbyte
  clear hby
  refine hbyte.mono ?_
  rintro x w1 ⟨rfl, hq⟩
  simp only at hq
  have k3 := hq.2.keeps hc3 (by omega)
  have k4 := hq.2.keeps hc4 (by omega)
  have z3 := blk_lt k3
  have z4 := blk_lt k4
  have st0 : NSt w r s g3 g4 w1.heap.size ⟨k', cy', ct', a', b', v'⟩ ⟨c, 0, 0, 0, 0, 0⟩ (p + 1) (w1.alloc (.cells #[.int .i64 c, .int .u64 0, .int .u64 0, .int .u32 0, .int .u32 0, .int .u32 0] 25)) :=
    ⟨hq.1.only ((Only.refl (fun _ => False) w1).alloc _) (fun x => x), (hon.trans hq.2 fun _ _ x => x).alloc _, blk_alloc k3 _, blk_alloc k4 _, heap_alloc_new w1 _, by omega, by omega, by have := blk_lt hq.1; omega, by omega, by omega, by omega, by omega, by omega, by omega⟩
  clear hc3 hc4 hon hrd hq k3 k4 hbyte
  go_wp2_with fail
  generalize w1.alloc (.cells #[.int .i64 c, .int .u64 0, .int .u64 0, .int .u32 0, .int .u32 0, .int .u32 0] 25) = W1 at st0 ⊢
  generalize w1.heap.size = o at st0 z3 z4 ⊢
  refine (name_any _ _).mono ?_
  rintro x w2 ⟨rfl, hk⟩
  have st1 := st0.below hk
  clear hk st0 z3 z4
  obtain ⟨e0, e1, e2, e3, e4, e5⟩ := ev_cells st1.co
  obtain ⟨y0, y1, y2, y3, y4, y5⟩ := ev_cells st1.c4
  have yf0 := frozen_blk st1.c4 0
  have yf1 := frozen_blk st1.c4 1
  have yf2 := frozen_blk st1.c4 2
  have yf3 := frozen_blk st1.c4 3
  have yf4 := frozen_blk st1.c4 4
  have yf5 := frozen_blk st1.c4 5
  simp only at e0 e1 e2 e3 e4 e5 y0 y1 y2 y3 y4 y5
  have d4o := st1.d4o
  cases hk : isK c
  · rw [nm_no hk]
    have HE := Lib.hid (show nxE s p = 1 by unfold nxE; rw [← HC.out, hk]; rfl)
    clear hk
    go_wp2_with fail
    exact bodyPost_ret (v := .tuple #[(Ev.mk c 0 0 0 0 0).val, .int .i64 1]) (by simp [results, Try.results127, go_sem, Ev.val, y0, y1, y2, y3, y4, y5]) rfl (nx_bad st1 (by omega) HE.out (by decide) rfl rfl _ rfl)
  · have HK := Lib.hid hk
    have hfull := nm_full hk
    have hne : ¬ (nm (c : Int)).toList = [] := by intro h; rw [h] at hfull; cases hfull
    clear hk
    go_wp2_with fail
    refine (most_any st1.rd (by omega) hs).mono ?_
    rintro x w3 ⟨rfl, hq⟩
    clear hfull hne
    have st2 := st1.read hq
    clear hq st1
    clear e0 e1 e2 e3 e4 e5 y0 y1 y2 y3 y4 y5 yf0 yf1 yf2 yf3 yf4 yf5
    rw [show lmost s (p + 1) M32 = n1 s p from rfl] at st2 ⊢
    have hN := n1_next hp
    obtain ⟨⟨v1, er1, q1⟩, h1⟩ : ∃ t, t = n1 s p := ⟨_, rfl⟩
    have hv1 : (n1 s p).2.1 = 0 → (n1 s p).1 ≤ M32 := fun h => lmost_le h
    rw [← h1] at st2 hN hv1 ⊢
    simp only at st2 hN hv1 ⊢
    have H1 := Lib.hid h1
    clear h1
    obtain ⟨e0, e1, e2, e3, e4, e5⟩ := ev_cells st2.co
    obtain ⟨y0, y1, y2, y3, y4, y5⟩ := ev_cells st2.c4
    have yf0 := frozen_blk st2.c4 0
    have yf1 := frozen_blk st2.c4 1
    have yf2 := frozen_blk st2.c4 2
    have yf3 := frozen_blk st2.c4 3
    have yf4 := frozen_blk st2.c4 4
    have yf5 := frozen_blk st2.c4 5
    simp only at e0 e1 e2 e3 e4 e5 y0 y1 y2 y3 y4 y5
    by_cases z1 : er1 = 0
    · have V1 : v1 ≤ 4294967295 := hv1 z1
      have Z1 := Lib.hid z1
      have zz : ((er1 : Int) != 0) = false := by simp [z1]
      clear hv1 z1
      go_wp2_with fail
      refine (most_any st2.rd hN hs).mono ?_
      rintro x w4 ⟨rfl, hq⟩
      clear zz
      have st3 := st2.read hq
      clear hq st2
      clear e0 e1 e2 e3 e4 e5 y0 y1 y2 y3 y4 y5 yf0 yf1 yf2 yf3 yf4 yf5
      have e2 : lmost s q1 M32 = n2 s p := by unfold n2; rw [← H1.out]
      rw [e2] at st3 ⊢
      have hN2 := n2_next hp
      obtain ⟨⟨v2, er2, q2⟩, h2⟩ : ∃ t, t = n2 s p := ⟨_, rfl⟩
      have hv2 := fun h : (n2 s p).2.1 = 0 => lmost_le (s := s) (p := (n1 s p).2.2) (m := M32) h
      have hv2' : (n2 s p).2.1 = 0 → (n2 s p).1 ≤ M32 := hv2
      clear hv2 e2
      rw [← h2] at st3 hN2 hv2' ⊢
      simp only at st3 hN2 hv2' ⊢
      have H2 := Lib.hid h2
      clear h2
      obtain ⟨e0, e1, e2, e3, e4, e5⟩ := ev_cells st3.co
      obtain ⟨y0, y1, y2, y3, y4, y5⟩ := ev_cells st3.c4
      have yf0 := frozen_blk st3.c4 0
      have yf1 := frozen_blk st3.c4 1
      have yf2 := frozen_blk st3.c4 2
      have yf3 := frozen_blk st3.c4 3
      have yf4 := frozen_blk st3.c4 4
      have yf5 := frozen_blk st3.c4 5
      simp only at e0 e1 e2 e3 e4 e5 y0 y1 y2 y3 y4 y5
      by_cases z2 : er2 = 0
      · have V2 : v2 ≤ 4294967295 := hv2' z2
        have Z2 := Lib.hid z2
        have zz : ((er2 : Int) != 0) = false := by simp [z2]
        clear hv2' z2
        go_wp2_with fail
        refine (fields_any _ _).mono ?_
        rintro x w5 ⟨rfl, hk⟩
        have lo5 := blk_lt (st3.below hk).co
        have lr5 := blk_lt (st3.below hk).rd
        have st4 := (st3.below hk).alloc (.cells #[.bool (hasA c), .bool (hasB c), .bool (hasV c)] 144)
        clear hk st3 zz
        clear e0 e1 e2 e3 e4 e5 y0 y1 y2 y3 y4 y5 yf0 yf1 yf2 yf3 yf4 yf5
        have hh : (w5.alloc (.cells #[.bool (hasA c), .bool (hasB c), .bool (hasV c)] 144)).heap[w5.heap.size]? = some (.cells #[.bool (hasA c), .bool (hasB c), .bool (hasV c)] 144 (0, 0)) := heap_alloc_new w5 _
        have ho5 : w5.heap.size ≠ o := by omega
        have hr5 : w5.heap.size ≠ r := by omega
        go_wp2_with fail
        generalize w5.alloc (.cells #[.bool (hasA c), .bool (hasB c), .bool (hasV c)] 144) = W5 at st4 hh ⊢
        generalize w5.heap.size = hb at hh ho5 hr5 ⊢
        have ix0 : ∀ x : World, (Instr.index 213 (.agg #[.pointer (some ⟨o, 3, none⟩), .pointer (some ⟨o, 4, none⟩), .pointer (some ⟨o, 5, none⟩)]) (.int .i64 0)).run Try.prog x = .ok (.pointer (some ⟨o, 3, none⟩)) x := fun _ => by kernel_rfl
        have ix1 : ∀ x : World, (Instr.index 213 (.agg #[.pointer (some ⟨o, 3, none⟩), .pointer (some ⟨o, 4, none⟩), .pointer (some ⟨o, 5, none⟩)]) (.int .i64 1)).run Try.prog x = .ok (.pointer (some ⟨o, 4, none⟩)) x := fun _ => by kernel_rfl
        have ix2 : ∀ x : World, (Instr.index 213 (.agg #[.pointer (some ⟨o, 3, none⟩), .pointer (some ⟨o, 4, none⟩), .pointer (some ⟨o, 5, none⟩)]) (.int .i64 2)).run Try.prog x = .ok (.pointer (some ⟨o, 5, none⟩)) x := fun _ => by kernel_rfl
        go_loopw [67] (fun x wr => ∃ (i q : Nat) (e : Ev), x = .int .i64 i ∧ i ≤ 3 ∧ LpSt s p c i q e ∧ q ≤ s.size ∧ NSt w r s g3 g4 o ⟨k', cy', ct', a', b', v'⟩ e q wr ∧ wr.heap[hb]? = some (.cells #[.bool (hasA c), .bool (hasB c), .bool (hasV c)] 144 (0, 0))) (fun x _ => 3 - (intOf x).toNat)
        case atStart => exact ⟨0, q2, ⟨c, 0, 0, 0, 0, 0⟩, rfl, by omega, .inl ⟨rfl, by rw [← H2.out], rfl⟩, hN2, st4, hh⟩
        case round =>
          clear st4 hh
          obtain ⟨i, q, e, rfl, hi, hL, hq, st5, hh⟩ := hrel
          rcases hL with ⟨rfl, rfl, rfl⟩ | ⟨rfl, hz0, rfl, rfl⟩ | ⟨rfl, hz0, hz1, rfl, rfl⟩ | ⟨rfl, hz0, hz1, hz2, rfl, rfl⟩
          · obtain ⟨hf0, hf1, hf2⟩ := has3 hh
            cases hx : hasA (c : Int)
            · rw [hx] at hf0
              have HX := Lib.hid (show nA s p = (0, 0, (n2 s p).2.2) by unfold nA opt; rw [← HC.out, hx]; rfl)
              have HB := Lib.hid hx
              clear hx
              go_wp2_with fail
              go_roundw
              case rel => exact ⟨1, (n2 s p).2.2, _, by go_num, by omega, .inr (.inl ⟨rfl, by rw [HX.out], by rw [HX.out], by rw [HX.out]⟩), hq, st5, (by have q := hh; rw [HB.out] at q; exact q)⟩
              case measure => simp [intOf]
            · rw [hx] at hf0
              have HX := Lib.hid (show nA s p = lmost s (n2 s p).2.2 M32 by unfold nA opt; rw [← HC.out, hx]; rfl)
              have HB := Lib.hid hx
              clear hx
              have HE0 : (nA s p).2.1 ≠ 0 → nxE s p = (nA s p).2.1 := fun hz => by unfold nxE; rw [← HC.out, if_pos HK.out, ← H1.out, ← H2.out]; simp only; rw [if_neg (by simp [Z1.out]), if_neg (by simp [Z2.out]), if_pos hz]
              have hvv : (nA s p).2.1 = 0 → (nA s p).1 ≤ 4294967295 := fun hz => opt_le hz
              have hnx : (nA s p).2.2 ≤ s.size := nA_next hp
              go_wp2_with fail
              refine (most_any st5.rd hq hs).mono ?_
              rintro x w6 ⟨rfl, hrq⟩
              rw [← HX.out] at hrq ⊢
              have hh6 := hrq.2.keeps hh hr5
              have st6 := st5.read hrq
              clear hrq hh st5 hf0 hf1 hf2
              obtain ⟨⟨vx, ex, qx⟩, hX⟩ : ∃ t, t = nA s p := ⟨_, rfl⟩
              rw [← hX] at HE0 hvv hnx st6 ⊢
              simp only at HE0 hvv hnx st6 ⊢
              have HXX := Lib.hid hX
              clear hX
              obtain ⟨e0, e1, e2, e3, e4, e5⟩ := ev_cells st6.co
              obtain ⟨y0, y1, y2, y3, y4, y5⟩ := ev_cells st6.c4
              have yf0 := frozen_blk st6.c4 0
              have yf1 := frozen_blk st6.c4 1
              have yf2 := frozen_blk st6.c4 2
              have yf3 := frozen_blk st6.c4 3
              have yf4 := frozen_blk st6.c4 4
              have yf5 := frozen_blk st6.c4 5
              simp only at e0 e1 e2 e3 e4 e5 y0 y1 y2 y3 y4 y5
              by_cases zx : ex = 0
              · have VX : vx ≤ 4294967295 := hvv zx
                have ZX := Lib.hid zx
                have zz : ((ex : Int) != 0) = false := by simp [zx]
                have ef := frozen_blk st6.co 3
                clear hvv zx HE0
                go_wp2_with fail
                have st7 := st6.store 3 (.int .u32 vx) (e' := ⟨c, 0, 0, vx, 0, 0⟩) rfl
                go_roundw
                case rel => exact ⟨1, qx, ⟨c, 0, 0, vx, 0, 0⟩, by go_num, by omega, .inr (.inl ⟨rfl, by rw [← HXX.out]; exact ZX.out, by rw [← HXX.out], by rw [← HXX.out]⟩), hnx, st7, blk_setCell_other (p := ⟨o, 3, none⟩) (by have q := hh6; rw [HB.out] at q; exact q) ho5 _⟩
                case measure => simp [intOf]
              · have zz : ((ex : Int) != 0) = true := by simp [zx]
                have HE := Lib.hid (HE0 zx)
                have zx' := Lib.hid zx
                clear zx hvv HE0
                go_wp2_with fail
                exact bodyPost_ret (v := .tuple #[(Ev.val ⟨c, 0, 0, 0, 0, 0⟩), .int .i64 ex]) (by simp [results, Try.results127, go_sem, Ev.val, y0, y1, y2, y3, y4, y5]) rfl (nx_bad st6 (by omega) HE.out zx'.out rfl rfl _ rfl)
          · obtain ⟨hf0, hf1, hf2⟩ := has3 hh
            have HZ0 := Lib.hid hz0
            clear hz0
            cases hx : hasB (c : Int)
            · rw [hx] at hf1
              have HX := Lib.hid (show nB s p = (0, 0, (nA s p).2.2) by unfold nB opt; rw [← HC.out, hx]; rfl)
              have HB := Lib.hid hx
              clear hx
              go_wp2_with fail
              go_roundw
              case rel => exact ⟨2, (nA s p).2.2, _, by go_num, by omega, .inr (.inr (.inl ⟨rfl, HZ0.out, by rw [HX.out], by rw [HX.out], by rw [HX.out]⟩)), hq, st5, (by have q := hh; rw [HB.out] at q; exact q)⟩
              case measure => simp [intOf]
            · rw [hx] at hf1
              have HX := Lib.hid (show nB s p = lmost s (nA s p).2.2 M32 by unfold nB opt; rw [← HC.out, hx]; rfl)
              have HB := Lib.hid hx
              clear hx
              have HE0 : (nB s p).2.1 ≠ 0 → nxE s p = (nB s p).2.1 := fun hz => by unfold nxE; rw [← HC.out, if_pos HK.out, ← H1.out, ← H2.out]; simp only; rw [if_neg (by simp [Z1.out]), if_neg (by simp [Z2.out]), if_neg (by simp [HZ0.out]), if_pos hz]
              have hvv : (nB s p).2.1 = 0 → (nB s p).1 ≤ 4294967295 := fun hz => opt_le hz
              have hnx : (nB s p).2.2 ≤ s.size := nB_next hp
              go_wp2_with fail
              refine (most_any st5.rd hq hs).mono ?_
              rintro x w6 ⟨rfl, hrq⟩
              rw [← HX.out] at hrq ⊢
              have hh6 := hrq.2.keeps hh hr5
              have st6 := st5.read hrq
              clear hrq hh st5 hf0 hf1 hf2
              obtain ⟨⟨vx, ex, qx⟩, hX⟩ : ∃ t, t = nB s p := ⟨_, rfl⟩
              rw [← hX] at HE0 hvv hnx st6 ⊢
              simp only at HE0 hvv hnx st6 ⊢
              have HXX := Lib.hid hX
              clear hX
              obtain ⟨e0, e1, e2, e3, e4, e5⟩ := ev_cells st6.co
              obtain ⟨y0, y1, y2, y3, y4, y5⟩ := ev_cells st6.c4
              have yf0 := frozen_blk st6.c4 0
              have yf1 := frozen_blk st6.c4 1
              have yf2 := frozen_blk st6.c4 2
              have yf3 := frozen_blk st6.c4 3
              have yf4 := frozen_blk st6.c4 4
              have yf5 := frozen_blk st6.c4 5
              simp only at e0 e1 e2 e3 e4 e5 y0 y1 y2 y3 y4 y5
              by_cases zx : ex = 0
              · have VX : vx ≤ 4294967295 := hvv zx
                have ZX := Lib.hid zx
                have zz : ((ex : Int) != 0) = false := by simp [zx]
                have ef := frozen_blk st6.co 4
                clear hvv zx HE0
                go_wp2_with fail
                have st7 := st6.store 4 (.int .u32 vx) (e' := ⟨c, 0, 0, (nA s p).1, vx, 0⟩) rfl
                go_roundw
                case rel => exact ⟨2, qx, ⟨c, 0, 0, (nA s p).1, vx, 0⟩, by go_num, by omega, .inr (.inr (.inl ⟨rfl, HZ0.out, by rw [← HXX.out]; exact ZX.out, by rw [← HXX.out], by rw [← HXX.out]⟩)), hnx, st7, blk_setCell_other (p := ⟨o, 4, none⟩) (by have q := hh6; rw [HB.out] at q; exact q) ho5 _⟩
                case measure => simp [intOf]
              · have zz : ((ex : Int) != 0) = true := by simp [zx]
                have HE := Lib.hid (HE0 zx)
                have zx' := Lib.hid zx
                clear zx hvv HE0
                go_wp2_with fail
                exact bodyPost_ret (v := .tuple #[(Ev.val ⟨c, 0, 0, (nA s p).1, 0, 0⟩), .int .i64 ex]) (by simp [results, Try.results127, go_sem, Ev.val, y0, y1, y2, y3, y4, y5]) rfl (nx_bad st6 (by omega) HE.out zx'.out rfl rfl _ rfl)
          · obtain ⟨hf0, hf1, hf2⟩ := has3 hh
            have HZ0 := Lib.hid hz0
            clear hz0
            have HZ1 := Lib.hid hz1
            clear hz1
            cases hx : hasV (c : Int)
            · rw [hx] at hf2
              have HX := Lib.hid (show nV s p = (0, 0, (nB s p).2.2) by unfold nV opt; rw [← HC.out, hx]; rfl)
              have HB := Lib.hid hx
              clear hx
              go_wp2_with fail
              go_roundw
              case rel => exact ⟨3, (nB s p).2.2, _, by go_num, by omega, .inr (.inr (.inr ⟨rfl, HZ0.out, HZ1.out, by rw [HX.out], by rw [HX.out], by rw [HX.out]⟩)), hq, st5, (by have q := hh; rw [HB.out] at q; exact q)⟩
              case measure => simp [intOf]
            · rw [hx] at hf2
              have HX := Lib.hid (show nV s p = lmost s (nB s p).2.2 M32 by unfold nV opt; rw [← HC.out, hx]; rfl)
              have HB := Lib.hid hx
              clear hx
              have HE0 : (nV s p).2.1 ≠ 0 → nxE s p = (nV s p).2.1 := fun hz => by unfold nxE; rw [← HC.out, if_pos HK.out, ← H1.out, ← H2.out]; simp only; rw [if_neg (by simp [Z1.out]), if_neg (by simp [Z2.out]), if_neg (by simp [HZ0.out]), if_neg (by simp [HZ1.out])]
              have hvv : (nV s p).2.1 = 0 → (nV s p).1 ≤ 4294967295 := fun hz => opt_le hz
              have hnx : (nV s p).2.2 ≤ s.size := nV_next hp
              go_wp2_with fail
              refine (most_any st5.rd hq hs).mono ?_
              rintro x w6 ⟨rfl, hrq⟩
              rw [← HX.out] at hrq ⊢
              have hh6 := hrq.2.keeps hh hr5
              have st6 := st5.read hrq
              clear hrq hh st5 hf0 hf1 hf2
              obtain ⟨⟨vx, ex, qx⟩, hX⟩ : ∃ t, t = nV s p := ⟨_, rfl⟩
              rw [← hX] at HE0 hvv hnx st6 ⊢
              simp only at HE0 hvv hnx st6 ⊢
              have HXX := Lib.hid hX
              clear hX
              obtain ⟨e0, e1, e2, e3, e4, e5⟩ := ev_cells st6.co
              obtain ⟨y0, y1, y2, y3, y4, y5⟩ := ev_cells st6.c4
              have yf0 := frozen_blk st6.c4 0
              have yf1 := frozen_blk st6.c4 1
              have yf2 := frozen_blk st6.c4 2
              have yf3 := frozen_blk st6.c4 3
              have yf4 := frozen_blk st6.c4 4
              have yf5 := frozen_blk st6.c4 5
              simp only at e0 e1 e2 e3 e4 e5 y0 y1 y2 y3 y4 y5
              by_cases zx : ex = 0
              · have VX : vx ≤ 4294967295 := hvv zx
                have ZX := Lib.hid zx
                have zz : ((ex : Int) != 0) = false := by simp [zx]
                have ef := frozen_blk st6.co 5
                clear hvv zx HE0
                go_wp2_with fail
                have st7 := st6.store 5 (.int .u32 vx) (e' := ⟨c, 0, 0, (nA s p).1, (nB s p).1, vx⟩) rfl
                go_roundw
                case rel => exact ⟨3, qx, ⟨c, 0, 0, (nA s p).1, (nB s p).1, vx⟩, by go_num, by omega, .inr (.inr (.inr ⟨rfl, HZ0.out, HZ1.out, by rw [← HXX.out]; exact ZX.out, by rw [← HXX.out], by rw [← HXX.out]⟩)), hnx, st7, blk_setCell_other (p := ⟨o, 5, none⟩) (by have q := hh6; rw [HB.out] at q; exact q) ho5 _⟩
                case measure => simp [intOf]
              · have zz : ((ex : Int) != 0) = true := by simp [zx]
                have HE := Lib.hid (HE0 zx)
                have zx' := Lib.hid zx
                clear zx hvv HE0
                go_wp2_with fail
                exact bodyPost_ret (v := .tuple #[(Ev.val ⟨c, 0, 0, (nA s p).1, (nB s p).1, 0⟩), .int .i64 ex]) (by simp [results, Try.results127, go_sem, Ev.val, y0, y1, y2, y3, y4, y5]) rfl (nx_bad st6 (by omega) HE.out zx'.out rfl rfl _ rfl)
          · clear hh ix0 ix1 ix2
            have hE0 : nxE s p = 0 := by unfold nxE; rw [← HC.out, if_pos HK.out, ← H1.out, ← H2.out]; simp only; rw [if_neg (by simp [Z1.out]), if_neg (by simp [Z2.out]), if_neg (by simp [hz0]), if_neg (by simp [hz1])]; exact hz2
            have LA : (nA s p).1 ≤ 4294967295 := opt_le hz0
            have LB : (nB s p).1 ≤ 4294967295 := opt_le hz1
            have LV : (nV s p).1 ≤ 4294967295 := opt_le hz2
            have hG : nxG s p = (v1 : Int) + unfoldV v2 := by unfold nxG; rw [← H1.out, ← H2.out]
            have hun := fun x => lunfold_any v2 (by unfold U64; omega) x
            have u0 : -2147483648 ≤ unfoldV v2 := by unfold unfoldV; split <;> omega
            have u1 : unfoldV v2 ≤ 2147483647 := by unfold unfoldV; split <;> omega
            have hEv : nxEv cy' ct' s p = ⟨c, cy' + ((v1 : Int) + unfoldV v2).toNat, ct' + v1, (nA s p).1, (nB s p).1, (nV s p).1⟩ := by unfold nxEv; rw [hG, ← H1.out, ← HC.out]
            have hcy := hwf.cy
            have hct := hwf.ct
            simp only at hcy hct
            have HEV := Lib.hid hEv
            have HG := Lib.hid hG
            have HE0 := Lib.hid hE0
            clear hEv hG hE0 hz0 hz1 hz2
            obtain ⟨b0, b1, b2, b3, b4, b5⟩ := ev_cells st5.c3
            simp only at b0 b1 b2 b3 b4 b5
            obtain ⟨e0, e1, e2, e3, e4, e5⟩ := ev_cells st5.co
            simp only at e0 e1 e2 e3 e4 e5
            have ef1 := frozen_blk st5.co 1
            have ef2 := frozen_blk st5.co 2
            have d3o := st5.d3o
            have d4o := st5.d4o
            go_wp2_with fail
            refine (hun _).mono ?_
            rintro x w8 ⟨rfl, rfl⟩
            clear hun
            generalize unfoldV v2 = u at u0 u1 HEV HG ⊢
            go_upto_region 25 with fail
            clear e0 e1 e2 e3 e4 e5 b0 b1 b2 b3 b4 b5 ef1 ef2
            obtain ⟨X2, hX2, p1, p2⟩ : ∃ X : Nat, IntKind.u64.wrap ((ct' : Int) + v1) = X ∧ (ct' + v1 < 18446744073709551616 → X = ct' + v1) ∧ (18446744073709551616 ≤ ct' + v1 → X < ct') := ⟨(ct' + v1) % 18446744073709551616, by rw [IntKind.wrap_u64]; omega, by omega, by omega⟩
            obtain ⟨X1, hX1, p3, p4⟩ : ∃ X : Nat, IntKind.u64.wrap ((cy' : Int) + IntKind.u64.wrap ((v1 : Int) + u)) = X ∧ (0 ≤ (v1 : Int) + u → cy' + ((v1 : Int) + u).toNat < 18446744073709551616 → X = cy' + ((v1 : Int) + u).toNat) ∧ (0 ≤ (v1 : Int) + u → 18446744073709551616 ≤ cy' + ((v1 : Int) + u).toNat → X < cy') := ⟨(((cy' : Int) + v1 + u) % 18446744073709551616).toNat, by rw [IntKind.wrap_u64, IntKind.wrap_u64]; omega, by omega, by omega⟩
            rw [hX2, hX1]
            have st6 : NSt w r s g3 g4 o ⟨k', cy', ct', a', b', v'⟩ ⟨c, X1, X2, (nA s p).1, (nB s p).1, (nV s p).1⟩ ((nV s p).2.2) ((wr.setCell ⟨o, 2, none⟩ (.int .u64 X2)).setCell ⟨o, 1, none⟩ (.int .u64 X1)) := (st5.store 2 (.int .u64 X2) (e' := ⟨c, 0, X2, (nA s p).1, (nB s p).1, (nV s p).1⟩) rfl).store 1 (.int .u64 X1) rfl
            generalize (wr.setCell ⟨o, 2, none⟩ (.int .u64 X2)).setCell ⟨o, 1, none⟩ (.int .u64 X1) = W8 at st6 ⊢
            clear st5 hX2 hX1
            obtain ⟨e0, e1, e2, e3, e4, e5⟩ := ev_cells st6.co
            obtain ⟨b0, b1, b2, b3, b4, b5⟩ := ev_cells st6.c3
            obtain ⟨y0, y1, y2, y3, y4, y5⟩ := ev_cells st6.c4
            have yf0 := frozen_blk st6.c4 0
            have yf1 := frozen_blk st6.c4 1
            have yf2 := frozen_blk st6.c4 2
            have yf3 := frozen_blk st6.c4 3
            have yf4 := frozen_blk st6.c4 4
            have yf5 := frozen_blk st6.c4 5
            simp only at e0 e1 e2 e3 e4 e5 b0 b1 b2 b3 b4 b5 y0 y1 y2 y3 y4 y5
            by_cases n0 : (v1 : Int) + u < 0
            · have HT := Lib.hid (show nxT cy' ct' s p = 5 from nxT_bad HE0.out (by unfold nxOk; rw [HG.out, show decide (0 ≤ (v1 : Int) + u) = false from by simp; omega]; rfl))
              have n0' := n0
              clear p1 p2 p3 p4
              go_wp2_with fail
              exact bodyPost_ret (v := .tuple #[(Ev.val ⟨c, X1, X2, (nA s p).1, (nB s p).1, (nV s p).1⟩), .int .i64 5]) (by simp [results, Try.results127, go_sem, Ev.val, y0, y1, y2, y3, y4, y5]) rfl (nx_out st6 (nV_next hp) HT.out (fun h => by cases h) rfl _ rfl)
            · have n1 : 0 ≤ (v1 : Int) + u := by omega
              by_cases c0 : 18446744073709551616 ≤ ct' + v1
              · have HT := Lib.hid (show nxT cy' ct' s p = 5 from nxT_bad HE0.out (by unfold nxOk; rw [← H1.out, show decide (ct' + v1 < 18446744073709551616) = false from by simp; omega]; simp))
                have m1 : (X2 : Int) < ct' := by have := p2 c0; omega
                clear p1 p2 p3 p4 n0 c0
                go_wp2_with fail
                exact bodyPost_ret (v := .tuple #[(Ev.val ⟨c, X1, X2, (nA s p).1, (nB s p).1, (nV s p).1⟩), .int .i64 5]) (by simp [results, Try.results127, go_sem, Ev.val, y0, y1, y2, y3, y4, y5]) rfl (nx_out st6 (nV_next hp) HT.out (fun h => by cases h) rfl _ rfl)
              · have q2 := p1 (by omega)
                have m1 : ¬ ((X2 : Int) < ct') := by omega
                have m1' : (ct' : Int) ≤ X2 := by omega
                by_cases c1 : 18446744073709551616 ≤ cy' + ((v1 : Int) + u).toNat
                · have HT := Lib.hid (show nxT cy' ct' s p = 5 from nxT_bad HE0.out (by unfold nxOk; rw [HG.out, show decide (cy' + ((v1 : Int) + u).toNat < 18446744073709551616) = false from by simp; omega]; simp))
                  have m2 : (X1 : Int) < cy' := by have := p4 n1 c1; omega
                  have Q2 := Lib.hid q2
                  clear p1 p2 p3 p4 n0 c0 c1 q2
                  go_wp2_with fail
                  exact bodyPost_ret (v := .tuple #[(Ev.val ⟨c, X1, X2, (nA s p).1, (nB s p).1, (nV s p).1⟩), .int .i64 5]) (by simp [results, Try.results127, go_sem, Ev.val, y0, y1, y2, y3, y4, y5]) rfl (nx_out st6 (nV_next hp) HT.out (fun h => by cases h) rfl _ rfl)
                · have q1 := p3 n1 (by omega)
                  have m2 : (cy' : Int) ≤ X1 := by omega
                  have hev : nxEv cy' ct' s p = ⟨c, X1, X2, (nA s p).1, (nB s p).1, (nV s p).1⟩ := by rw [HEV.out, q1, q2]
                  have hck := fun x => check_any ⟨c, X1, X2, (nA s p).1, (nB s p).1, (nV s p).1⟩ x
                  have hok : nxOk cy' ct' s p = decide ((Ev.chk ⟨c, X1, X2, (nA s p).1, (nB s p).1, (nV s p).1⟩) = 0) := by
                    unfold nxOk
                    rw [hev, HG.out, ← H1.out]
                    have d1 : decide (0 ≤ (v1 : Int) + u) = true := by simp; omega
                    have d2 : decide (ct' + v1 < 18446744073709551616) = true := by simp; omega
                    have d3 : decide (cy' + ((v1 : Int) + u).toNat < 18446744073709551616) = true := by simp; omega
                    rw [d1, d2, d3]; rfl
                  have HEQ := Lib.hid hev
                  have HOK := Lib.hid hok
                  clear p1 p2 p3 p4 n0 c0 c1 q1 q2 hev hok
                  simp only [Ev.val] at hck
                  generalize hcc : (Ev.chk ⟨c, X1, X2, (nA s p).1, (nB s p).1, (nV s p).1⟩) = cc at hck HOK
                  clear hcc
                  go_wp2_with fail
                  refine (hck _).mono ?_
                  rintro x w9 ⟨rfl, hk⟩
                  have st7 := st6.below hk
                  clear hk st6 hck
                  clear e0 e1 e2 e3 e4 e5 b0 b1 b2 b3 b4 b5 y0 y1 y2 y3 y4 y5 yf0 yf1 yf2 yf3 yf4 yf5
                  obtain ⟨e0, e1, e2, e3, e4, e5⟩ := ev_cells st7.co
                  obtain ⟨b0, b1, b2, b3, b4, b5⟩ := ev_cells st7.c3
                  obtain ⟨y0, y1, y2, y3, y4, y5⟩ := ev_cells st7.c4
                  have yf0 := frozen_blk st7.c4 0
                  have yf1 := frozen_blk st7.c4 1
                  have yf2 := frozen_blk st7.c4 2
                  have yf3 := frozen_blk st7.c4 3
                  have yf4 := frozen_blk st7.c4 4
                  have yf5 := frozen_blk st7.c4 5
                  simp only at e0 e1 e2 e3 e4 e5 b0 b1 b2 b3 b4 b5 y0 y1 y2 y3 y4 y5
                  by_cases z : cc = 0
                  · have zz : (cc != 0) = false := by simp [z]
                    have HT := Lib.hid (show nxT cy' ct' s p = 0 by unfold nxT; rw [if_pos HE0.out, HOK.out, z]; rfl)
                    clear z
                    go_wp2_with fail
                    exact bodyPost_ret (v := .tuple #[(Ev.val ⟨c, X1, X2, (nA s p).1, (nB s p).1, (nV s p).1⟩), .int .i64 0]) (by simp [results, Try.results127, go_sem, Ev.val, y0, y1, y2, y3, y4, y5]) rfl (nx_out st7 (nV_next hp) HT.out (fun _ => ⟨HEQ.out.symm, rfl⟩) rfl _ rfl)
                  · have zz : (cc != 0) = true := by simp [z]
                    have HT := Lib.hid (show nxT cy' ct' s p = 5 from nxT_bad HE0.out (by rw [HOK.out]; simp [z]))
                    clear z
                    go_wp2_with fail
                    exact bodyPost_ret (v := .tuple #[(Ev.val ⟨c, X1, X2, (nA s p).1, (nB s p).1, (nV s p).1⟩), .int .i64 5]) (by simp [results, Try.results127, go_sem, Ev.val, y0, y1, y2, y3, y4, y5]) rfl (nx_out st7 (nV_next hp) HT.out (fun h => by cases h) rfl _ rfl)
      · have zz : ((er2 : Int) != 0) = true := by simp [z2]
        have HE := Lib.hid (show nxE s p = er2 by unfold nxE; rw [← HC.out, if_pos HK.out, ← H1.out, ← H2.out]; simp only; rw [if_neg (by simp [Z1.out]), if_pos z2])
        have z2' := Lib.hid z2
        clear z2 hv2'
        go_wp2_with fail
        exact bodyPost_ret (v := .tuple #[(Ev.mk c 0 0 0 0 0).val, .int .i64 er2]) (by simp [results, Try.results127, go_sem, Ev.val, y0, y1, y2, y3, y4, y5]) rfl (nx_bad st3 (by omega) HE.out z2'.out rfl rfl _ rfl)
    · have zz : ((er1 : Int) != 0) = true := by simp [z1]
      have HE := Lib.hid (show nxE s p = er1 by unfold nxE; rw [← HC.out, if_pos HK.out, ← H1.out]; simp only; rw [if_pos z1])
      have z1' := Lib.hid z1
      clear z1 hv1
      go_wp2_with fail
      exact bodyPost_ret (v := .tuple #[(Ev.mk c 0 0 0 0 0).val, .int .i64 er1]) (by simp [results, Try.results127, go_sem, Ev.val, y0, y1, y2, y3, y4, y5]) rfl (nx_bad st2 (by omega) HE.out z1'.out rfl rfl _ rfl)
end Go.Proofs.Ytbfipgeoecbpaaa
