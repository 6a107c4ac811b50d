/- A bundle of: OwnEv RdA RdB. -/
import Derived.Test.YtbfipgeoecbpaaaBP
import Derived.Test.YtbfipgeoecbpaaaSl
import Derived.Test.YtbfipgeoecbpaaaBN
import Derived.Test.YtbfipgeoecbpaaaBL
import Derived.Deep.LoopGhost
import Derived.Deep.Onto
import Derived.Sort.OwnSorted
import Derived.Test.YtbfipgeoecbpaaaBC
/- A slice of events that the code made reads by an index function. No condition. -/
namespace Go.Proofs.Ytbfipgeoecbpaaa
open Go.RowKit
/-- Events as cells, one behind the other. -/
def evCells (l : List Ev) : List Value := l.flatMap Ev.cells
theorem evCells_length (l : List Ev) : (evCells l).length = l.length * 6 := by
  induction l with
  | nil => rfl
  | cons e l ih => simp [evCells, Ev.cells] at ih ⊢; omega
theorem evCells_snoc (l : List Ev) (e : Ev) : evCells (l ++ [e]) = evCells l ++ e.cells := by simp [evCells]
theorem evCells_one (l : List Ev) : ∀ u ∈ evCells l, u.oneCell' = true := by
  intro u hu
  simp only [evCells, List.mem_flatMap] at hu
  obtain ⟨e, _, h⟩ := hu
  simp only [Ev.cells, List.mem_cons, List.not_mem_nil, or_false] at h
  rcases h with rfl | rfl | rfl | rfl | rfl | rfl <;> rfl
theorem evCells_at : ∀ (l : List Ev) (i j : Nat), i < l.length → j < 6 → (evCells l)[i * 6 + j]? = some ((l.getD i default).f j)
  | [], i, _, h, _ => absurd h (Nat.not_lt_zero _)
  | e :: l, 0, j, _, hj => by
    match j, hj with
    | 0, _ => rfl
    | 1, _ => rfl
    | 2, _ => rfl
    | 3, _ => rfl
    | 4, _ => rfl
    | 5, _ => rfl
  | e :: l, i + 1, j, h, hj => by
    have ih := evCells_at l i j (by simpa using h) hj
    have e1 : evCells (e :: l) = e.cells ++ evCells l := rfl
    rw [e1, List.getElem?_append_right (by simp [Ev.cells]; omega)]
    have e2 : (i + 1) * 6 + j - e.cells.length = i * 6 + j := by simp [Ev.cells]; omega
    rw [e2, ih]
    rfl
theorem slArgN_own {w : World} {base t cap : Nat} {ao : Option Addr} {l : List Ev} (h : w.ownsRow base t 6 (.slice ao l.length cap) l.length (evCells l)) : SlArgN w ao l.length cap 6 (fun i j => (l.getD i default).f j) := by
  have hcells := fun g (hg : (Value.slice ao l.length cap).ownBlock = some g) => h.cells hg
  rcases h.2 with ⟨h1, h2⟩ | ⟨g, cp, cur, h1, _, hb, hnc, hcm, _⟩
  · simp only [Value.slice.injEq] at h1
    obtain ⟨rfl, h3, rfl⟩ := h1
    rw [h3]
    exact ⟨Nat.le_refl _, Nat.zero_le _, fun _ hi => absurd hi (Nat.not_lt_zero _)⟩
  · simp only [Value.slice.injEq] at h1
    obtain ⟨rfl, _, rfl⟩ := h1
    refine ⟨hnc, hcm, fun i hi => ⟨g, 0, rfl, blk_lt hb, fun j hj => ?_⟩⟩
    have q := hcells g rfl (i * 6 + j) _ (evCells_at l i j hi hj)
    rw [Go.WideShapes.add_plain] at q
    rw [show 0 + i * 6 + j = 0 + (i * 6 + j) from by omega]
    exact q
end Go.Proofs.Ytbfipgeoecbpaaa
/- Contract of coil.Read. No condition but those that it names. -/
namespace Go.Proofs.Ytbfipgeoecbpaaa
open Go.RowKit
set_option maxRecDepth 20000
theorem own_only {S : Nat → Prop} {w w' : World} {base : Nat} {e : TypeId} {size : Nat} {v : Value} {n : Nat} {xs : List Value} (h : w.ownsRow base e size v n xs) (o : Only S w w') (hS : ∀ k, S k → k < base) : w'.ownsRow base e size v n xs := by
  rcases h.2 with h0 | ⟨g, cap, cur, rfl, hbg, hb, hr⟩
  · exact ⟨h.1, .inl h0⟩
  · exact ⟨h.1, .inr ⟨g, cap, cur, rfl, hbg, o.keeps hb fun x => absurd (hS _ x) (by omega), hr⟩⟩
theorem own_set {w : World} {base : Nat} {e : TypeId} {size : Nat} {v : Value} {n : Nat} {xs : List Value} (h : w.ownsRow base e size v n xs) (p : Addr) (u : Value) (hp : p.block < base) : (w.setCell p u).ownsRow base e size v n xs :=
  own_only h ((Only.refl (fun k => k = p.block) w).setCell p u fun _ => rfl) fun _ hk => by rw [hk]; exact hp
theorem own_below {w w' : World} {base : Nat} {e : TypeId} {size : Nat} {v : Value} {n : Nat} {xs : List Value} (h : w.ownsRow base e size v n xs) (k : Below w.heap.size w w') : w'.ownsRow base e size v n xs :=
  own_only h (Only.of_below k (fun _ => False)) fun _ hk => hk.elim
theorem ev_info : ∃ i, Try.prog.info? 25 = some i ∧ i.zero = some (.agg #[.int .i64 0, .int .u64 0, .int .u64 0, .int .u32 0, .int .u32 0, .int .u32 0]) ∧ i.size = 6 ∧ i.bytes = 40 := by
  have h : Try.prog.info? 25 = some ((Try.prog.info? 25).get (by kernel_rfl)) := (Option.some_get _).symm
  exact ⟨_, h, by kernel_rfl, by kernel_rfl, by kernel_rfl⟩
/-- What Read answers: the events, in a slice of its own; the error. -/
def EvsPost (w : World) (l : List Ev) (er : Int) (x : Ending) (w' : World) : Prop :=
  ∃ ao cap, x = .returned (.tuple #[.slice ao l.length cap, .int .i64 er]) ∧ w'.ownsRow w.heap.size 25 6 (.slice ao l.length cap) l.length (evCells l) ∧ Below w.heap.size w w'
def rdS (s : ByteArray) (cy ct : Nat) : List Ev := if (rdL s s.size cy ct 0).2 = 0 then (rdL s s.size cy ct 0).1 else []
/-- Where Read stands. -/
structure LI (w : World) (s : ByteArray) (R B : Nat) (e : Ev) (l : List Ev) (p : Nat) (out : Value) (wr : World) : Prop where
  rd : IsRd wr R s p
  bel : Below w.heap.size w wr
  bb : wr.heap[B]? = some (.cells e.cells.toArray 25 (0, 0))
  own : wr.ownsRow (B + 1) 25 6 out l.length (evCells l)
  hp : p ≤ s.size
  lr : w.heap.size ≤ R
  rb : R < B
  len : l.length ≤ p
theorem LI.size {w : World} {s : ByteArray} {R B : Nat} {e : Ev} {l : List Ev} {p : Nat} {out : Value} {wr : World} (h : LI w s R B e l p out wr) : B + 1 ≤ wr.heap.size := blk_lt h.bb
theorem LI.nbel {w : World} {s : ByteArray} {R B : Nat} {e : Ev} {l : List Ev} {p : Nat} {out : Value} {wr w2 : World} {n : Nat} (h : LI w s R B e l p out wr) (o : Only (fun k => k = R) (wr.drewN n) w2) : Below w.heap.size w w2 :=
  have hl := h.lr
  ((Only.of_below h.bel (fun _ => False)).drewN n |>.trans o fun i hi hk => absurd hi (by omega)).below (Nat.le_refl _) fun _ _ x => x
theorem LI.next {w : World} {s : ByteArray} {R B : Nat} {e : Ev} {l : List Ev} {p q : Nat} {out : Value} {wr w2 : World} {n : Nat} (h : LI w s R B e l p out wr) (o : Only (fun k => k = R) (wr.drewN n) w2) (hr : IsRd w2 R s q) (hq : q ≤ s.size) (hpq : p ≤ q) : LI w s R B e l q out w2 :=
  have hb := h.size
  have hl := h.lr
  have hrb := h.rb
  { rd := hr
    bel := ((Only.of_below h.bel (fun _ => False)).drewN n |>.trans o fun i hi hk => absurd hi (by omega)).below (Nat.le_refl _) fun _ _ x => x
    bb := o.keeps (S := fun k => k = R) h.bb (by omega)
    own := own_only (w := wr.drewN n) (S := fun k => k = R) (by exact h.own) o fun k hk => by omega
    hp := hq
    lr := h.lr
    rb := h.rb
    len := Nat.le_trans h.len hpq }
theorem LI.below {w : World} {s : ByteArray} {R B : Nat} {e : Ev} {l : List Ev} {p : Nat} {out : Value} {wr w2 : World} (h : LI w s R B e l p out wr) (k : Below wr.heap.size wr w2) : LI w s R B e l p out w2 :=
  { h with rd := h.rd.kept k, bel := h.bel.trans (k.mono h.bel.size), bb := (k.block _ (blk_lt h.bb)).trans h.bb, own := own_below h.own k }
theorem LI.alloc {w : World} {s : ByteArray} {R B : Nat} {e : Ev} {l : List Ev} {p : Nat} {out : Value} {wr : World} (h : LI w s R B e l p out wr) (x : Obj) : LI w s R B e l p out (wr.alloc x) :=
  h.below ((Below.refl wr.heap.size wr).alloc (Nat.le_refl _) x)
theorem LI.grow {w : World} {s : ByteArray} {R B : Nat} {e e2 : Ev} {l : List Ev} {p : Nat} {out out' : Value} {wr w2 : World} (h : LI w s R B e l p out wr) (hg : wr.grownBy w2 out.ownBlock) (ho : w2.ownsRow (B + 1) 25 6 out' (l.length + 1) (evCells l ++ evCells [e2])) (hl : l.length + 1 ≤ p) : LI w s R B e (l ++ [e2]) p out' w2 :=
  have hk := fun k hk => (h.own.lt k hk).1
  have hlr := h.lr
  have hrb := h.rb
  { h with
    rd := (hg.block R (blk_lt h.rd) fun x => by have := hk R x.symm; omega).trans h.rd
    bel := h.bel.trans ⟨hg.os, hg.tape, hg.output, hg.size, fun k hk' => hg.block k (Nat.lt_of_lt_of_le hk' h.bel.size) fun x => by have := hk k x.symm; omega⟩
    bb := (hg.block B (blk_lt h.bb) fun x => by have := hk B x.symm; omega).trans h.bb
    own := by
      have e1 : evCells (l ++ [e2]) = evCells l ++ evCells [e2] := by simp [evCells]
      rw [e1, List.length_append]; exact ho
    len := by rw [List.length_append]; exact hl }
/-- The event before is put. -/
theorem LI.store {w : World} {s : ByteArray} {R B : Nat} {e : Ev} {l : List Ev} {p : Nat} {out : Value} {wr : World} (h : LI w s R B e l p out wr) (e2 : Ev) :
    LI w s R B e2 l p out ((((((wr.setCell ⟨B, 0, none⟩ (.int .i64 e2.k)).setCell ⟨B, 1, none⟩ (.int .u64 e2.cy)).setCell ⟨B, 2, none⟩ (.int .u64 e2.ct)).setCell ⟨B, 3, none⟩ (.int .u32 e2.a)).setCell ⟨B, 4, none⟩ (.int .u32 e2.b)).setCell ⟨B, 5, none⟩ (.int .u32 e2.v)) :=
  have hlr := h.lr
  have hrb := h.rb
  have hne : R ≠ B := by omega
  { h with
    rd := blk_setCell_other (blk_setCell_other (blk_setCell_other (blk_setCell_other (blk_setCell_other (blk_setCell_other h.rd hne _) hne _) hne _) hne _) hne _) hne _
    bel := (((((((Only.of_below h.bel (fun _ => False)).setCell ⟨B, 0, none⟩ _ fun x => absurd x (by simp; omega)).setCell ⟨B, 1, none⟩ _ fun x => absurd x (by simp; omega)).setCell ⟨B, 2, none⟩ _ fun x => absurd x (by simp; omega)).setCell ⟨B, 3, none⟩ _ fun x => absurd x (by simp; omega)).setCell ⟨B, 4, none⟩ _ fun x => absurd x (by simp; omega)).setCell ⟨B, 5, none⟩ _ fun x => absurd x (by simp; omega)).below (Nat.le_refl _) fun _ _ x => x
    bb := blk_setCell (blk_setCell (blk_setCell (blk_setCell (blk_setCell (blk_setCell h.bb (i := 0) (.int .i64 e2.k)) (i := 1) (.int .u64 e2.cy)) (i := 2) (.int .u64 e2.ct)) (i := 3) (.int .u32 e2.a)) (i := 4) (.int .u32 e2.b)) (i := 5) (.int .u32 e2.v)
    own := own_set (own_set (own_set (own_set (own_set (own_set h.own ⟨B, 0, none⟩ _ (Nat.lt_succ_self _)) ⟨B, 1, none⟩ _ (Nat.lt_succ_self _)) ⟨B, 2, none⟩ _ (Nat.lt_succ_self _)) ⟨B, 3, none⟩ _ (Nat.lt_succ_self _)) ⟨B, 4, none⟩ _ (Nat.lt_succ_self _)) ⟨B, 5, none⟩ _ (Nat.lt_succ_self _) }
theorem src_ev (w : World) (e : Ev) : Src (w.alloc (.cells #[.int .i64 e.k, .int .u64 e.cy, .int .u64 e.ct, .int .u32 e.a, .int .u32 e.b, .int .u32 e.v] 25)) (.slice (some ⟨w.heap.size, 0, none⟩) 1 1) 1 (evCells [e]) := by
  refine .inr ⟨_, 1, rfl, fun j u hj => ?_⟩
  rw [Go.WideShapes.add_plain, cell_blk (heap_alloc_new w _)]
  have e1 : evCells [e] = e.cells := by simp [evCells]
  rw [e1] at hj
  rw [← hj, Nat.zero_add]
  simp [Ev.cells]
theorem rdL_step {s : ByteArray} {f cy ct p : Nat} (hp : p < s.size) (ht : nxT cy ct s p = 0) (l : List Ev) {e : Ev} {q : Nat} (he : e = nxEv cy ct s p) (hq : q = (nV s p).2.2) :
    (l ++ (rdL s (f + 1) cy ct p).1, (rdL s (f + 1) cy ct p).2) = ((l ++ [e]) ++ (rdL s f e.cy e.ct q).1, (rdL s f e.cy e.ct q).2) := by
  rw [rdL, if_pos hp, if_pos ht, ← he, ← hq]
  simp
/-- The number of rounds that may be left. -/
def LR (w : World) (s : ByteArray) (cy ct R B k : Nat) (out : Value) (wr : World) : Prop :=
  ∃ (e : Ev) (l : List Ev) (p : Nat), LI w s R B e l p out wr ∧ e.Wf ∧ s.size - p ≤ k ∧ rdL s s.size cy ct 0 = (l ++ (rdL s k e.cy e.ct p).1, (rdL s k e.cy e.ct p).2)
set_option maxHeartbeats 4000000 in
theorem cread_any (s : ByteArray) (cy ct : Nat) (hcy : cy < 18446744073709551616) (hct : ct < 18446744073709551616) (hs : s.size ≤ 1000000000) (w : World) :
    Calls Try.prog 112 #[.int .u64 cy, .int .u64 ct, .string s] w (EvsPost w (rdS s cy ct) (rdL s s.size cy ct 0).2) := by
  have hs' : s.size ≤ 140737488355328 := by omega
  have HS := Lib.hid hs
  obtain ⟨i0, hi, hz0, hz1, hz2⟩ := ev_info
  have ul : Try.prog.underlying 40 = some (.slice 25) := by kernel_rfl
  have h0 : LI w s w.heap.size (w.heap.size + 1) ⟨0, cy, ct, 0, 0, 0⟩ [] 0 (.slice none 0 0) ((w.alloc (.cells #[.string s, .int .i64 0] 196)).alloc (.cells #[.int .i64 0, .int .u64 cy, .int .u64 ct, .int .u32 0, .int .u32 0, .int .u32 0] 25)) :=
    { rd := blk_alloc (isRd_new s w) _
      bel := ((Below.refl w.heap.size w).alloc (Nat.le_refl _) _).alloc (by simp) _
      bb := by simpa [Ev.cells] using heap_alloc_new (w.alloc (.cells #[.string s, .int .i64 0] 196)) (.cells #[.int .i64 0, .int .u64 cy, .int .u64 ct, .int .u32 0, .int .u32 0, .int .u32 0] 25)
      own := World.ownsRow_nil _ _ _ _
      hp := Nat.zero_le _
      lr := Nat.le_refl _
      rb := Nat.lt_succ_self _
      len := Nat.le_refl _ }
  have hw0 : (Ev.mk 0 cy ct 0 0 0).Wf := ⟨by simp, by simp, hcy, hct, by simp, by simp, by simp⟩
  have HW0 := Lib.hid hw0
  clear hw0 hs
  go_enter Try.func112, Try.ntmps112
  go_wp2_with fail
  refine (new_any _ _).mono ?_
  rintro x w1 ⟨rfl, rfl⟩
  go_wp2_with fail
  generalize (w.alloc (.cells #[.string s, .int .i64 0] 196)).alloc (.cells #[.int .i64 0, .int .u64 cy, .int .u64 ct, .int .u32 0, .int .u32 0, .int .u32 0] 25) = W0 at h0 ⊢
  obtain ⟨R, hR⟩ : ∃ R, R = w.heap.size := ⟨_, rfl⟩
  obtain ⟨B, hB⟩ : ∃ B, B = w.heap.size + 1 := ⟨_, rfl⟩
  rw [← hB] at h0 ⊢
  rw [← hR] at ⊢
  rw [show LI w s w.heap.size = LI w s R by rw [hR]] at h0
  clear hR hB
  go_loopg [10] (s.size) (fun k out wr => LR w s cy ct R B k out wr)
  case atStart => exact ⟨_, [], 0, h0, HW0.out, by omega, by simp⟩
  case round =>
    obtain ⟨e, l, p, hL, hwf, hk, he⟩ := hrel
    have HE := Lib.hid (And.intro hk he)
    clear hk he
    go_wp2_with fail
    refine (left_any hL.rd hL.hp hs').mono ?_
    rintro x w2 ⟨rfl, n, rfl⟩
    by_cases hp : p < s.size
    · have hd : decide ((0 : Int) < (s.size : Int) - p) = true := by simp; omega
      have hd' : (0 : Int) < (s.size : Int) - p := by omega
      have hn := next_any (hL.rd.drewN n) hp hs' e hwf
      obtain ⟨k', cy', ct', a', b', v'⟩ := e
      obtain ⟨c0, c1, c2, c3, c4, c5⟩ := ev_cells hL.bb
      simp only at c0 c1 c2 c3 c4 c5 hn
      go_wp2_with fail
      refine hn.mono ?_
      clear hn c0 c1 c2 c3 c4 c5
      unfold NxPost
      rintro x w3 ⟨⟨k2, cy2, ct2, a2, b2, v2⟩, q, rfl, hz, hr, hq, ho⟩
      have hb3 := hL.nbel ho
      obtain ⟨T, hT⟩ : ∃ T, T = nxT cy' ct' s p := ⟨_, rfl⟩
      rw [← hT] at hz ⊢
      have HT := Lib.hid hT
      clear hT
      unfold Ev.val
      by_cases t0 : T = 0
      · obtain ⟨hev, hq2⟩ := hz t0
        have hpq := nV_gt s p
        have hL2 := hL.next ho hr hq (by omega)
        have zz : (T != 0) = false := by simp [t0]
        have HZ := Lib.hid (And.intro t0 (And.intro hev (And.intro hq2 hpq)))
        have hsz3 := hL2.size
        have hlq : l.length + 1 ≤ q := by have := hL.len; omega
        clear t0 hev hq2 hpq ho hr hq hz hL hb3 h0
        have hb1 := hL2.len
        have hb2 := hL2.hp
        have hs9 := HS.out
        have hL5 := (hL2.alloc (.cells #[.int .i64 k2, .int .u64 cy2, .int .u64 ct2, .int .u32 a2, .int .u32 b2, .int .u32 v2] 25)).alloc (.cells #[.int .i64 k2, .int .u64 cy2, .int .u64 ct2, .int .u32 a2, .int .u32 b2, .int .u32 v2] 25)
        have ho5 := hL5.own
        have hsr := src_ev (w3.alloc (.cells #[.int .i64 k2, .int .u64 cy2, .int .u64 ct2, .int .u32 a2, .int .u32 b2, .int .u32 v2] 25)) ⟨k2, cy2, ct2, a2, b2, v2⟩
        rw [World.size_alloc] at hsr
        have hbo : ((w3.alloc (.cells #[.int .i64 k2, .int .u64 cy2, .int .u64 ct2, .int .u32 a2, .int .u32 b2, .int .u32 v2] 25)).alloc (.cells #[.int .i64 k2, .int .u64 cy2, .int .u64 ct2, .int .u32 a2, .int .u32 b2, .int .u32 v2] 25)).heap[w3.heap.size]? = some (.cells (Ev.cells ⟨k2, cy2, ct2, a2, b2, v2⟩).toArray 25 (0, 0)) := blk_alloc (heap_alloc_new w3 _) _
        have hne5 : ∀ k, u10.ownBlock = some k → k < w3.heap.size := fun k hk => (hL2.own.lt k hk).2
        go_wp2_with (at_builtin; (refine list_append rfl (.tmp 30) (.tmp 32) 40 rfl (B + 1) (by simp; omega) 25 i0 _ 6 40 ul hi hz0 hz1 hz2 rfl (by decide) u10 l.length (evCells l) rfl ho5 _ 1 (evCells [⟨k2, cy2, ct2, a2, b2, v2⟩]) rfl rfl hsr (evCells_one _) (by unfold maxLen; omega) (by omega) ?_); intro ao cap w10 hown' hg hat; have hb10 := (hg.block w3.heap.size (blk_lt hbo) (fun x => Nat.lt_irrefl _ (hne5 _ x.symm))).trans hbo; have hL10 := hL5.grow hg hown' hlq; obtain ⟨y0, y1, y2, y3, y4, y5⟩ := ev_cells hb10; simp only at y0 y1 y2 y3 y4 y5; have yf0 := frozen_blk hL10.bb 0; have yf1 := frozen_blk hL10.bb 1; have yf2 := frozen_blk hL10.bb 2; have yf3 := frozen_blk hL10.bb 3; have yf4 := frozen_blk hL10.bb 4; have yf5 := frozen_blk hL10.bb 5; obtain ⟨z0, z1, z2, z3, z4, z5⟩ := ev_cells hL10.bb; simp only at z0 z1 z2 z3 z4 z5; clear hbo hb10 hg hat hown' hL5 ho5 hsr hne5 hL2)
        obtain ⟨t0, hev, hq2, hpq⟩ := HZ.out
        obtain ⟨hk, he⟩ := HE.out
        obtain ⟨g, rfl⟩ : ∃ g, gk = g + 1 := ⟨gk - 1, by omega⟩
        go_roundg g
        case measure => omega
        case rel =>
          have hwf2 : (Ev.mk k2 cy2 ct2 a2 b2 v2).Wf := by rw [hev]; exact (next_spell (b := ⟨k', cy', ct', a', b', v'⟩) hp (HT.out.symm.trans t0)).2.1
          have hst := hL10.store ⟨k2, cy2, ct2, a2, b2, v2⟩
          exact ⟨⟨k2, cy2, ct2, a2, b2, v2⟩, l ++ [⟨k2, cy2, ct2, a2, b2, v2⟩], q, hst, hwf2, by omega, he.trans (rdL_step hp (HT.out.symm.trans t0) l hev hq2)⟩
      · have zz : (T != 0) = true := by simp [t0]
        have HZ := Lib.hid t0
        clear t0 hz
        clear h0
        go_wp2_with fail
        have hlt : rdL s s.size cy ct 0 = (l, T) := by
          obtain ⟨hk, he⟩ := HE.out
          obtain ⟨g, rfl⟩ : ∃ g, gk = g + 1 := ⟨gk - 1, by omega⟩
          rw [he, rdL, if_pos hp, if_neg (by rw [← HT.out]; exact HZ.out), ← HT.out]
          simp
        refine bodyPost_ret (v := .tuple #[.slice none 0 0, .int .i64 T]) (by simp [results, Try.results112, go_sem]) rfl ?_
        have e9 : rdS s cy ct = [] := by unfold rdS; rw [hlt, if_neg HZ.out]
        rw [hlt, e9]
        exact ⟨none, 0, rfl, World.ownsRow_nil _ _ _ _, hb3.alloc hb3.size _⟩
    · have hd : decide ((0 : Int) < (s.size : Int) - p) = false := by simp; omega
      have hd' : ¬ (0 : Int) < (s.size : Int) - p := by omega
      clear h0
      go_wp2_with fail
      have hlt : rdL s s.size cy ct 0 = (l, 0) := by
        obtain ⟨hk, he⟩ := HE.out
        rw [he]
        cases gk with
        | zero => simp [rdL]
        | succ g => rw [rdL, if_neg hp]; simp
      obtain ⟨ao, cap, hcap⟩ := owns_form hL.own
      have ho := hL.own
      rw [hcap] at ho ⊢
      refine bodyPost_ret (v := .tuple #[.slice ao l.length cap, .int .i64 0]) (by simp [results, Try.results112, go_sem]) rfl ?_
      have e9 : rdS s cy ct = l := by unfold rdS; rw [hlt, if_pos rfl]
      rw [hlt, e9]
      exact ⟨ao, cap, rfl, World.ownsRow.mono (ho : (wr.drewN n).ownsRow _ _ _ _ _ _) (by have := hL.lr; have := hL.rb; omega), below_drewN hL.bel n⟩
end Go.Proofs.Ytbfipgeoecbpaaa
/- Contract of ref06.Read. No condition but those that it names. (Printed by gen_rdb.py.) -/
namespace Go.Proofs.Ytbfipgeoecbpaaa
open Go.RowKit
set_option maxRecDepth 20000
theorem evs_nil {w w' : World} {s : ByteArray} {cy0 ct0 cy ct p k : Nat} {l : List Ev} {T : Int} (hp : p < s.size) (hk : s.size - p ≤ k) (he : rdL s s.size cy0 ct0 0 = (l ++ (rdL s k cy ct p).1, (rdL s k cy ct p).2)) (hT : nxT cy ct s p = T) (h0 : T ≠ 0) (hB : Below w.heap.size w w') :
    EvsPost w (rdS s cy0 ct0) (rdL s s.size cy0 ct0 0).2 (.returned (.tuple #[.slice none 0 0, .int .i64 T])) w' := by
  have hlt : rdL s s.size cy0 ct0 0 = (l, T) := by
    obtain ⟨g, rfl⟩ : ∃ g, k = g + 1 := ⟨k - 1, by omega⟩
    rw [he, rdL, if_pos hp, if_neg (by rw [hT]; exact h0), hT]
    simp
  have e9 : rdS s cy0 ct0 = [] := by unfold rdS; rw [hlt, if_neg h0]
  rw [hlt, e9]
  exact ⟨none, 0, rfl, World.ownsRow_nil _ _ _ _, hB⟩
/-- Where the reference's Read stands inside a round: the event in o, which numbers it has in hb, the numbers in g. -/
structure DSt (w : World) (out : Value) (l : List Ev) (o hb g : Nat) (e : Ev) (xa xb xv : Bool) (v0 v1 v2 v3 v4 : Nat) (wr : World) : Prop where
  bel : Below w.heap.size w wr
  own : wr.ownsRow w.heap.size 25 6 out l.length (evCells l)
  ltw : ∀ k, out.ownBlock = some k → k < o
  co : wr.heap[o]? = some (.cells e.cells.toArray 25 (0, 0))
  ch : wr.heap[hb]? = some (.cells #[.bool xa, .bool xb, .bool xv] 144 (0, 0))
  cg : wr.heap[g]? = some (.cells #[.int .u64 v0, .int .u64 v1, .int .u64 v2, .int .u64 v3, .int .u64 v4] 180 (0, 0))
  oh : o < hb
  hg : hb < g
  lo : w.heap.size ≤ o
theorem own_ne {S : Nat → Prop} {w w' : World} {base : Nat} {e : TypeId} {size : Nat} {v : Value} {n : Nat} {xs : List Value} (h : w.ownsRow base e size v n xs) (o : Only S w w') (hS : ∀ k, v.ownBlock = some k → ¬ S k) : w'.ownsRow base e size v n xs := by
  rcases h.2 with h0 | ⟨g, cap, cur, rfl, hbg, hb, hr⟩
  · exact ⟨h.1, .inl h0⟩
  · exact ⟨h.1, .inr ⟨g, cap, cur, rfl, hbg, o.keeps hb (hS g rfl), hr⟩⟩
theorem DSt.below {w : World} {out : Value} {l : List Ev} {o hb g : Nat} {e : Ev} {xa xb xv : Bool} {v0 v1 v2 v3 v4 : Nat} {wr w2 : World} (h : DSt w out l o hb g e xa xb xv v0 v1 v2 v3 v4 wr) (k : Below wr.heap.size wr w2) : DSt w out l o hb g e xa xb xv v0 v1 v2 v3 v4 w2 :=
  { h with bel := h.bel.trans (k.mono h.bel.size), own := own_below h.own k, co := (k.block _ (blk_lt h.co)).trans h.co, ch := (k.block _ (blk_lt h.ch)).trans h.ch, cg := (k.block _ (blk_lt h.cg)).trans h.cg }
theorem bel_set {B : Nat} {w w2 : World} (h : Below B w w2) (p : Addr) (v : Value) (hp : B ≤ p.block) : Below B w (w2.setCell p v) :=
  ⟨h.os, h.tape, h.output, by have := h.size; simp [World.setCell]; omega, fun k hk => by rw [Below.heap_setCell _ _ _ _ (fun e => absurd hk (by rw [e]; omega))]; exact h.block k hk⟩
theorem DSt.store {w : World} {out : Value} {l : List Ev} {o hb g : Nat} {e e' : Ev} {xa xb xv : Bool} {v0 v1 v2 v3 v4 : Nat} {wr : World} (h : DSt w out l o hb g e xa xb xv v0 v1 v2 v3 v4 wr) (i : Nat) (v : Value) (he : e.cells.toArray.setIfInBounds i v = e'.cells.toArray) : DSt w out l o hb g e' xa xb xv v0 v1 v2 v3 v4 (wr.setCell ⟨o, i, none⟩ v) :=
  have h1 := h.oh
  have h2 := h.hg
  { h with
    bel := bel_set h.bel _ v h.lo
    own := own_ne h.own ((Only.refl (fun k => k = o) wr).setCell ⟨o, i, none⟩ v fun _ => rfl) fun k hk e => by have := h.ltw k hk; omega
    co := by rw [← he]; exact blk_setCell h.co (i := i) v
    ch := blk_setCell_other (p := ⟨o, i, none⟩) h.ch (by show hb ≠ o; omega) v
    cg := blk_setCell_other (p := ⟨o, i, none⟩) h.cg (by show g ≠ o; omega) v }
theorem DSt.num {w : World} {out : Value} {l : List Ev} {o hb g : Nat} {e : Ev} {xa xb xv : Bool} {v0 v1 v2 v3 v4 : Nat} {wr : World} (h : DSt w out l o hb g e xa xb xv v0 v1 v2 v3 v4 wr) (i n : Nat) {y0 y1 y2 y3 y4 : Nat}
    (he : (#[Value.int .u64 v0, .int .u64 v1, .int .u64 v2, .int .u64 v3, .int .u64 v4] : Array Value).setIfInBounds i (.int .u64 n) = #[.int .u64 y0, .int .u64 y1, .int .u64 y2, .int .u64 y3, .int .u64 y4]) : DSt w out l o hb g e xa xb xv y0 y1 y2 y3 y4 (wr.setCell ⟨g, i, none⟩ (.int .u64 n)) :=
  have h1 := h.oh
  have h2 := h.hg
  { h with
    bel := bel_set h.bel _ _ (by show w.heap.size ≤ g; have := h.lo; omega)
    own := own_ne h.own ((Only.refl (fun k => k = g) wr).setCell ⟨g, i, none⟩ _ fun _ => rfl) fun k hk e => by have := h.ltw k hk; omega
    co := blk_setCell_other (p := ⟨g, i, none⟩) h.co (by show o ≠ g; omega) _
    ch := blk_setCell_other (p := ⟨g, i, none⟩) h.ch (by show hb ≠ g; omega) _
    cg := by rw [← he]; exact blk_setCell h.cg (i := i) _ }
/-- The rounds of the inner loop. -/
def NLp (s : ByteArray) (p : Nat) (i q v0 v1 v2 v3 v4 : Nat) : Prop :=
  (i = 0 ∧ q = p + 1 ∧ v0 = 0 ∧ v1 = 0 ∧ v2 = 0 ∧ v3 = 0 ∧ v4 = 0) ∨
  (i = 1 ∧ (n1 s p).2.1 = 0 ∧ q = (n1 s p).2.2 ∧ v0 = (n1 s p).1 ∧ v1 = 0 ∧ v2 = 0 ∧ v3 = 0 ∧ v4 = 0) ∨
  (i = 2 ∧ (n1 s p).2.1 = 0 ∧ (n2 s p).2.1 = 0 ∧ q = (n2 s p).2.2 ∧ v0 = (n1 s p).1 ∧ v1 = (n2 s p).1 ∧ v2 = 0 ∧ v3 = 0 ∧ v4 = 0) ∨
  (i = 3 ∧ (n1 s p).2.1 = 0 ∧ (n2 s p).2.1 = 0 ∧ (nA s p).2.1 = 0 ∧ q = (nA s p).2.2 ∧ v0 = (n1 s p).1 ∧ v1 = (n2 s p).1 ∧ v2 = (nA s p).1 ∧ v3 = 0 ∧ v4 = 0) ∨
  (i = 4 ∧ (n1 s p).2.1 = 0 ∧ (n2 s p).2.1 = 0 ∧ (nA s p).2.1 = 0 ∧ (nB s p).2.1 = 0 ∧ q = (nB s p).2.2 ∧ v0 = (n1 s p).1 ∧ v1 = (n2 s p).1 ∧ v2 = (nA s p).1 ∧ v3 = (nB s p).1 ∧ v4 = 0) ∨
  (i = 5 ∧ (n1 s p).2.1 = 0 ∧ (n2 s p).2.1 = 0 ∧ (nA s p).2.1 = 0 ∧ (nB s p).2.1 = 0 ∧ (nV s p).2.1 = 0 ∧ q = (nV s p).2.2 ∧ v0 = (n1 s p).1 ∧ v1 = (n2 s p).1 ∧ v2 = (nA s p).1 ∧ v3 = (nB s p).1 ∧ v4 = (nV s p).1)
theorem three {w : World} {hb : Nat} {a b v : Bool} (h : w.heap[hb]? = some (.cells #[.bool a, .bool b, .bool v] 144 (0, 0))) : w.cell? ⟨hb, 0, none⟩ = some (.bool a) ∧ w.cell? ⟨hb, 1, none⟩ = some (.bool b) ∧ w.cell? ⟨hb, 2, none⟩ = some (.bool v) := by
  refine ⟨?_, ?_, ?_⟩ <;> (rw [cell_blk h]; rfl)
theorem five {w : World} {g : Nat} {a b c d e : Nat} (h : w.heap[g]? = some (.cells #[.int .u64 a, .int .u64 b, .int .u64 c, .int .u64 d, .int .u64 e] 180 (0, 0))) : w.cell? ⟨g, 0, none⟩ = some (.int .u64 a) ∧ w.cell? ⟨g, 1, none⟩ = some (.int .u64 b) ∧ w.cell? ⟨g, 2, none⟩ = some (.int .u64 c) ∧ w.cell? ⟨g, 3, none⟩ = some (.int .u64 d) ∧ w.cell? ⟨g, 4, none⟩ = some (.int .u64 e) := by
  refine ⟨?_, ?_, ?_, ?_, ?_⟩ <;> (rw [cell_blk h]; rfl)
theorem nxT_e {cy ct : Nat} {s : ByteArray} {p er : Nat} (h : nxE s p = er) (h0 : er ≠ 0) : nxT cy ct s p = er := by unfold nxT; rw [h, if_neg h0]
theorem rmost32 {s : ByteArray} {p : Nat} (hp : p ≤ s.size) (hs : s.size ≤ 140737488355328) (w : World) :
    Calls Try.prog 114 #[.string s, .int .i64 p, .int .u64 4294967295] w fun e w' => e = .returned (.tuple #[.int .u64 (lmost s p M32).1, .int .i64 (lmost s p M32).2.1, .int .i64 (lmost s p M32).2.2]) ∧ w = w' := rmost_any hp hs M32 w
def RL (w : World) (s : ByteArray) (cy ct k : Nat) (u0 u1 out u9 : Value) (wr : World) : Prop :=
  ∃ (cy' ct' p : Nat) (l : List Ev), u0 = .int .u64 cy' ∧ u1 = .int .u64 ct' ∧ u9 = .int .i64 p ∧ cy' < 18446744073709551616 ∧ ct' < 18446744073709551616 ∧ p ≤ s.size ∧ l.length ≤ p ∧ Below w.heap.size w wr ∧ wr.ownsRow w.heap.size 25 6 out l.length (evCells l) ∧ s.size - p ≤ k ∧ rdL s s.size cy ct 0 = (l ++ (rdL s k cy' ct' p).1, (rdL s k cy' ct' p).2)
set_option maxHeartbeats 8000000 in
theorem rread_any (s : ByteArray) (cy ct : Nat) (hcy : cy < 18446744073709551616) (hct : ct < 18446744073709551616) (hs : s.size ≤ 1000000000) (w : World) :
    Calls Try.prog 97 #[.int .u64 cy, .int .u64 ct, .string s] w (EvsPost w (rdS s cy ct) (rdL s s.size cy ct 0).2) := by
  have hs' : s.size ≤ 140737488355328 := by omega
  have HS := Lib.hid hs
  obtain ⟨i0, hi, hz0, hz1, hz2⟩ := ev_info
  have ul : Try.prog.underlying 40 = some (.slice 25) := by kernel_rfl
  have hlit := World.ownsRow_lit (e := 25) (base := w.heap.size) (size := 6) w #[] 0 (Nat.le_refl _) (by decide) rfl
  have HCY := Lib.hid hcy
  have HCT := Lib.hid hct
  clear hs hcy hct
  go_enter Try.func97, Try.ntmps97
  go_wp2_with fail
  go_loopg [0, 1, 8, 9] (s.size) (fun k u0 u1 out u9 wr => RL w s cy ct k u0 u1 out u9 wr)
  case atStart => exact ⟨cy, ct, 0, [], rfl, rfl, rfl, HCY.out, HCT.out, by omega, by simp, (Below.refl _ _).alloc (Nat.le_refl _) _, hlit, by omega, by simp⟩
  case round =>
    clear hlit
    obtain ⟨cy', ct', p, l, rfl, rfl, rfl, hcy, hct, hps, hlp, hbel, hown, hk, he⟩ := hrel
    have HE := Lib.hid (And.intro hk he)
    have HW := Lib.hid (And.intro hcy hct)
    clear hk he
    by_cases hp : p < s.size
    · have hpi : (p : Int) < s.size := by omega
      have hwp : wrap64 ((p : Int) + 1) = ((p + 1 : Nat) : Int) := by unfold wrap64; omega
      have hwi : IntKind.i64.wrap ((p : Int) + 1) = ((p + 1 : Nat) : Int) := by rw [IntKind.wrap_i64]; omega
      obtain ⟨c, hc⟩ : ∃ c : Nat, c = bt s p := ⟨_, rfl⟩
      have hc2 : s[p].toNat = c := by rw [hc, bt_of hp]
      have hcl : c < 256 := by rw [hc]; exact bt_lt s p
      have HC := Lib.hid hc
      clear hc
      have hsz := hbel.size
      have hcb : (wr.alloc (.cells #[.int .i64 c, .int .u64 0, .int .u64 0, .int .u32 0, .int .u32 0, .int .u32 0] 25)).heap[wr.heap.size]? = some (.cells (Ev.cells ⟨c, 0, 0, 0, 0, 0⟩).toArray 25 (0, 0)) := heap_alloc_new wr _
      have hb1 := hbel.alloc hsz (.cells #[.int .i64 c, .int .u64 0, .int .u64 0, .int .u32 0, .int .u32 0, .int .u32 0] 25)
      have ho1 := hown.alloc (.cells #[.int .i64 c, .int .u64 0, .int .u64 0, .int .u32 0, .int .u32 0, .int .u32 0] 25)
      have hlt1 : ∀ k, u8.ownBlock = some k → k < wr.heap.size := fun k hk => (hown.lt k hk).2
      cases hik : isK c
      · have hE := Lib.hid (show nxE s p = 1 by unfold nxE; rw [← HC.out, hik]; rfl)
        have hkr : c < 1 ∨ 24 < c := by unfold isK at hik; simp at hik; omega
        clear hcb ho1 hlt1 hown hik
        rcases hkr with h1 | h1
        · have t1 : (c : Int) < 1 := by omega
          go_wp2_with fail
          exact bodyPost_ret (v := .tuple #[.slice none 0 0, .int .i64 1]) (by simp [results, Try.results97, go_sem]) rfl (evs_nil hp HE.out.1 HE.out.2 (nxT_e hE.out (by decide)) (by decide) hb1)
        · have t1 : ¬ (c : Int) < 1 := by omega
          have t2 : (24 : Int) < c := by omega
          go_wp2_with fail
          exact bodyPost_ret (v := .tuple #[.slice none 0 0, .int .i64 1]) (by simp [results, Try.results97, go_sem]) rfl (evs_nil hp HE.out.1 HE.out.2 (nxT_e hE.out (by decide)) (by decide) hb1)
      · have HK := Lib.hid hik
        obtain ⟨k1, k2⟩ := isK_range hik
        have t1 : ¬ (c : Int) < 1 := by omega
        have t2 : ¬ (24 : Int) < c := by omega
        obtain ⟨e0, e1, e2, e3, e4, e5⟩ := ev_cells hcb
        simp only at e0 e1 e2 e3 e4 e5
        clear hown hik k1 k2
        go_wp2_with fail
        generalize wr.alloc (.cells #[.int .i64 c, .int .u64 0, .int .u64 0, .int .u32 0, .int .u32 0, .int .u32 0] 25) = W1 at hcb hb1 ho1 e0 e1 e2 e3 e4 e5 ⊢
        generalize wr.heap.size = o at hcb hlt1 hsz e0 e1 e2 e3 e4 e5 ⊢
        refine (rhas_any _ _).mono ?_
        rintro x w2 ⟨rfl, hk2⟩
        clear e0 e1 e2 e3 e4 e5
        have st0 : DSt w u8 l o w2.heap.size (w2.heap.size + 1) ⟨c, 0, 0, 0, 0, 0⟩ (hasA c) (hasB c) (hasV c) 0 0 0 0 0 ((w2.alloc (.cells #[.bool (hasA c), .bool (hasB c), .bool (hasV c)] 144)).alloc (.cells #[.int .u64 0, .int .u64 0, .int .u64 0, .int .u64 0, .int .u64 0] 180)) :=
          { bel := ((hb1.trans (hk2.mono hb1.size)).alloc (hb1.trans (hk2.mono hb1.size)).size _).alloc ((hb1.trans (hk2.mono hb1.size)).alloc (hb1.trans (hk2.mono hb1.size)).size _).size _
            own := ((own_below ho1 hk2).alloc _).alloc _
            ltw := hlt1
            co := blk_alloc (blk_alloc ((hk2.block _ (blk_lt hcb)).trans hcb) _) _
            ch := blk_alloc (heap_alloc_new w2 _) _
            cg := by simpa using heap_alloc_new (w2.alloc (.cells #[.bool (hasA c), .bool (hasB c), .bool (hasV c)] 144)) (.cells #[.int .u64 0, .int .u64 0, .int .u64 0, .int .u64 0, .int .u64 0] 180)
            oh := Nat.lt_of_lt_of_le (blk_lt hcb) hk2.size
            hg := Nat.lt_succ_self _
            lo := hsz }
        clear hcb hb1 ho1 hlt1 hk2 t1 t2 hbel hc2
        go_wp2_with fail
        generalize (w2.alloc (.cells #[.bool (hasA c), .bool (hasB c), .bool (hasV c)] 144)).alloc (.cells #[.int .u64 0, .int .u64 0, .int .u64 0, .int .u64 0, .int .u64 0] 180) = W2 at st0 ⊢
        obtain ⟨g, hg⟩ : ∃ g, g = w2.heap.size + 1 := ⟨_, rfl⟩
        rw [← hg] at st0 ⊢
        clear hg
        generalize w2.heap.size = hb at st0 ⊢
        obtain ⟨xa, hxa⟩ : ∃ x, x = hasA c := ⟨_, rfl⟩
        obtain ⟨xb, hxb⟩ : ∃ x, x = hasB c := ⟨_, rfl⟩
        obtain ⟨xv, hxv⟩ : ∃ x, x = hasV c := ⟨_, rfl⟩
        rw [← hxa, ← hxb, ← hxv] at st0 ⊢
        have HX := Lib.hid (And.intro hxa (And.intro hxb hxv))
        clear hxa hxb hxv
        go_loopw [9, 13] (fun u9 u13 wr => ∃ (i q v0 v1 v2 v3 v4 : Nat), u13 = .int .i64 i ∧ u9 = .int .i64 q ∧ q ≤ s.size ∧ NLp s p i q v0 v1 v2 v3 v4 ∧ DSt w u8 l o hb g ⟨c, 0, 0, 0, 0, 0⟩ xa xb xv v0 v1 v2 v3 v4 wr) (fun _ u13 _ => 5 - (intOf u13).toNat)
        case atStart => exact ⟨0, p + 1, 0, 0, 0, 0, 0, rfl, rfl, hp, .inl ⟨rfl, rfl, rfl, rfl, rfl, rfl, rfl⟩, st0⟩
        case round =>
          clear st0
          obtain ⟨i, q, v0, v1, v2, v3, v4, rfl, rfl, hqs, hN, st⟩ := hrel
          obtain ⟨g0, g1, g2, g3, g4⟩ := five st.cg
          obtain ⟨h0, h1, h2⟩ := three st.ch
          rcases hN with HZ | HZ | HZ | HZ | HZ | HZ
          · obtain ⟨rfl, hq, rfl, rfl, rfl, rfl, rfl⟩ := HZ
            have HQ := Lib.hid hq
            clear hq
            go_wp2_with fail
            refine (rmost32 hqs hs' _).mono ?_
            rintro x w5 ⟨rfl, rfl⟩
            have hN : lmost s q M32 = n1 s p := by rw [HQ.out]; rfl
            have hnx := lmost_next s q M32 hqs
            rw [hN] at hnx ⊢
            clear hN
            obtain ⟨⟨vn, er, qn⟩, hn⟩ : ∃ t, t = n1 s p := ⟨_, rfl⟩
            rw [← hn] at hnx ⊢
            simp only at hnx ⊢
            have HN := Lib.hid hn
            clear hn
            by_cases z : er = 0
            · have zz : ((er : Int) != 0) = false := by simp [z]
              have Zn := Lib.hid z
              have fg := frozen_blk st.cg 0
              clear z
              go_wp2_with fail
              go_roundw
              case rel => exact ⟨1, qn, vn, 0, 0, 0, 0, by go_num, rfl, hnx, .inr (.inl ⟨rfl, (by rw [← HN.out]; exact Zn.out), (by rw [← HN.out]), (by rw [← HN.out]), rfl, rfl, rfl, rfl⟩), (by have k := st.num 0 vn rfl; exact k)⟩
              case measure => simp [intOf]
            · have zz : ((er : Int) != 0) = true := by simp [z]
              have hE : nxE s p = er := by
                unfold nxE
                rw [← HC.out, if_pos HK.out]
                rw [← HN.out, if_pos z]
              have Zn := Lib.hid (And.intro z hE)
              clear z hE
              go_wp2_with fail
              exact bodyPost_ret (v := .tuple #[.slice none 0 0, .int .i64 er]) (by simp [results, Try.results97, go_sem]) rfl (evs_nil hp HE.out.1 HE.out.2 (nxT_e Zn.out.2 Zn.out.1) (by have := Zn.out.1; omega) st.bel)
          · obtain ⟨rfl, z0, hq, w0, rfl, rfl, rfl, rfl⟩ := HZ
            have HQ := Lib.hid hq
            have Z0 := Lib.hid z0
            have Y0 := Lib.hid w0
            clear hq z0 w0
            go_wp2_with fail
            refine (rmost32 hqs hs' _).mono ?_
            rintro x w5 ⟨rfl, rfl⟩
            have hN : lmost s q M32 = n2 s p := by rw [HQ.out]; rfl
            have hnx := lmost_next s q M32 hqs
            rw [hN] at hnx ⊢
            clear hN
            obtain ⟨⟨vn, er, qn⟩, hn⟩ : ∃ t, t = n2 s p := ⟨_, rfl⟩
            rw [← hn] at hnx ⊢
            simp only at hnx ⊢
            have HN := Lib.hid hn
            clear hn
            by_cases z : er = 0
            · have zz : ((er : Int) != 0) = false := by simp [z]
              have Zn := Lib.hid z
              have fg := frozen_blk st.cg 1
              clear z
              go_wp2_with fail
              go_roundw
              case rel => exact ⟨2, qn, v0, vn, 0, 0, 0, by go_num, rfl, hnx, .inr (.inr (.inl ⟨rfl, Z0.out, (by rw [← HN.out]; exact Zn.out), (by rw [← HN.out]), Y0.out, (by rw [← HN.out]), rfl, rfl, rfl⟩)), (by have k := st.num 1 vn rfl; exact k)⟩
              case measure => simp [intOf]
            · have zz : ((er : Int) != 0) = true := by simp [z]
              have hE : nxE s p = er := by
                unfold nxE
                rw [← HC.out, if_pos HK.out, if_neg (by rw [Z0.out]; decide)]
                rw [← HN.out, if_pos z]
              have Zn := Lib.hid (And.intro z hE)
              clear z hE
              go_wp2_with fail
              exact bodyPost_ret (v := .tuple #[.slice none 0 0, .int .i64 er]) (by simp [results, Try.results97, go_sem]) rfl (evs_nil hp HE.out.1 HE.out.2 (nxT_e Zn.out.2 Zn.out.1) (by have := Zn.out.1; omega) st.bel)
          · obtain ⟨rfl, z0, z1, hq, w0, w1, rfl, rfl, rfl⟩ := HZ
            have HQ := Lib.hid hq
            have Z0 := Lib.hid z0
            have Y0 := Lib.hid w0
            have Z1 := Lib.hid z1
            have Y1 := Lib.hid w1
            clear hq z0 w0 z1 w1
            cases hx : xa
            · have hN : nA s p = (0, 0, q) := by unfold nA opt; rw [← HC.out, ← HX.out.1, hx, ← HQ.out]; rfl
              have HN := Lib.hid hN
              have HX2 := Lib.hid hx
              rw [hx] at h0
              clear hN hx
              go_wp2_with fail
              go_roundw
              case rel => exact ⟨3, q, v0, v1, 0, 0, 0, by go_num, rfl, hqs, .inr (.inr (.inr (.inl ⟨rfl, Z0.out, Z1.out, (by rw [HN.out]), (by rw [HN.out]), Y0.out, Y1.out, (by rw [HN.out]), rfl, rfl⟩))), (by have k := st; rw [HX2.out] at k; exact k)⟩
              case measure => simp [intOf]
            · have hN0 := Lib.hid (show lmost s q M32 = nA s p by unfold nA opt; rw [← HC.out, ← HX.out.1, hx, ← HQ.out]; rfl)
              rw [hx] at h0
              have HX2 := Lib.hid hx
              clear hx
              go_wp2_with fail
              refine (rmost32 hqs hs' _).mono ?_
              rintro x w5 ⟨rfl, rfl⟩
              have hN : lmost s q M32 = nA s p := hN0.out
              have hnx := lmost_next s q M32 hqs
              rw [hN] at hnx ⊢
              clear hN
              obtain ⟨⟨vn, er, qn⟩, hn⟩ : ∃ t, t = nA s p := ⟨_, rfl⟩
              rw [← hn] at hnx ⊢
              simp only at hnx ⊢
              have HN := Lib.hid hn
              clear hn
              by_cases z : er = 0
              · have zz : ((er : Int) != 0) = false := by simp [z]
                have Zn := Lib.hid z
                have fg := frozen_blk st.cg 2
                clear z
                go_wp2_with fail
                go_roundw
                case rel => exact ⟨3, qn, v0, v1, vn, 0, 0, by go_num, rfl, hnx, .inr (.inr (.inr (.inl ⟨rfl, Z0.out, Z1.out, (by rw [← HN.out]; exact Zn.out), (by rw [← HN.out]), Y0.out, Y1.out, (by rw [← HN.out]), rfl, rfl⟩))), (by have k := st.num 2 vn rfl; rw [HX2.out] at k; exact k)⟩
                case measure => simp [intOf]
              · have zz : ((er : Int) != 0) = true := by simp [z]
                have hE : nxE s p = er := by
                  unfold nxE
                  rw [← HC.out, if_pos HK.out, if_neg (by rw [Z0.out]; decide), if_neg (by rw [Z1.out]; decide)]
                  rw [← HN.out, if_pos z]
                have Zn := Lib.hid (And.intro z hE)
                clear z hE
                go_wp2_with fail
                exact bodyPost_ret (v := .tuple #[.slice none 0 0, .int .i64 er]) (by simp [results, Try.results97, go_sem]) rfl (evs_nil hp HE.out.1 HE.out.2 (nxT_e Zn.out.2 Zn.out.1) (by have := Zn.out.1; omega) st.bel)
          · obtain ⟨rfl, z0, z1, z2, hq, w0, w1, w2, rfl, rfl⟩ := HZ
            have HQ := Lib.hid hq
            have Z0 := Lib.hid z0
            have Y0 := Lib.hid w0
            have Z1 := Lib.hid z1
            have Y1 := Lib.hid w1
            have Z2 := Lib.hid z2
            have Y2 := Lib.hid w2
            clear hq z0 w0 z1 w1 z2 w2
            cases hx : xb
            · have hN : nB s p = (0, 0, q) := by unfold nB opt; rw [← HC.out, ← HX.out.2.1, hx, ← HQ.out]; rfl
              have HN := Lib.hid hN
              have HX2 := Lib.hid hx
              rw [hx] at h1
              clear hN hx
              go_wp2_with fail
              go_roundw
              case rel => exact ⟨4, q, v0, v1, v2, 0, 0, by go_num, rfl, hqs, .inr (.inr (.inr (.inr (.inl ⟨rfl, Z0.out, Z1.out, Z2.out, (by rw [HN.out]), (by rw [HN.out]), Y0.out, Y1.out, Y2.out, (by rw [HN.out]), rfl⟩)))), (by have k := st; rw [HX2.out] at k; exact k)⟩
              case measure => simp [intOf]
            · have hN0 := Lib.hid (show lmost s q M32 = nB s p by unfold nB opt; rw [← HC.out, ← HX.out.2.1, hx, ← HQ.out]; rfl)
              rw [hx] at h1
              have HX2 := Lib.hid hx
              clear hx
              go_wp2_with fail
              refine (rmost32 hqs hs' _).mono ?_
              rintro x w5 ⟨rfl, rfl⟩
              have hN : lmost s q M32 = nB s p := hN0.out
              have hnx := lmost_next s q M32 hqs
              rw [hN] at hnx ⊢
              clear hN
              obtain ⟨⟨vn, er, qn⟩, hn⟩ : ∃ t, t = nB s p := ⟨_, rfl⟩
              rw [← hn] at hnx ⊢
              simp only at hnx ⊢
              have HN := Lib.hid hn
              clear hn
              by_cases z : er = 0
              · have zz : ((er : Int) != 0) = false := by simp [z]
                have Zn := Lib.hid z
                have fg := frozen_blk st.cg 3
                clear z
                go_wp2_with fail
                go_roundw
                case rel => exact ⟨4, qn, v0, v1, v2, vn, 0, by go_num, rfl, hnx, .inr (.inr (.inr (.inr (.inl ⟨rfl, Z0.out, Z1.out, Z2.out, (by rw [← HN.out]; exact Zn.out), (by rw [← HN.out]), Y0.out, Y1.out, Y2.out, (by rw [← HN.out]), rfl⟩)))), (by have k := st.num 3 vn rfl; rw [HX2.out] at k; exact k)⟩
                case measure => simp [intOf]
              · have zz : ((er : Int) != 0) = true := by simp [z]
                have hE : nxE s p = er := by
                  unfold nxE
                  rw [← HC.out, if_pos HK.out, if_neg (by rw [Z0.out]; decide), if_neg (by rw [Z1.out]; decide), if_neg (by rw [Z2.out]; decide)]
                  rw [← HN.out, if_pos z]
                have Zn := Lib.hid (And.intro z hE)
                clear z hE
                go_wp2_with fail
                exact bodyPost_ret (v := .tuple #[.slice none 0 0, .int .i64 er]) (by simp [results, Try.results97, go_sem]) rfl (evs_nil hp HE.out.1 HE.out.2 (nxT_e Zn.out.2 Zn.out.1) (by have := Zn.out.1; omega) st.bel)
          · obtain ⟨rfl, z0, z1, z2, z3, hq, w0, w1, w2, w3, rfl⟩ := HZ
            have HQ := Lib.hid hq
            have Z0 := Lib.hid z0
            have Y0 := Lib.hid w0
            have Z1 := Lib.hid z1
            have Y1 := Lib.hid w1
            have Z2 := Lib.hid z2
            have Y2 := Lib.hid w2
            have Z3 := Lib.hid z3
            have Y3 := Lib.hid w3
            clear hq z0 w0 z1 w1 z2 w2 z3 w3
            cases hx : xv
            · have hN : nV s p = (0, 0, q) := by unfold nV opt; rw [← HC.out, ← HX.out.2.2, hx, ← HQ.out]; rfl
              have HN := Lib.hid hN
              have HX2 := Lib.hid hx
              rw [hx] at h2
              clear hN hx
              go_wp2_with fail
              go_roundw
              case rel => exact ⟨5, q, v0, v1, v2, v3, 0, by go_num, rfl, hqs, .inr (.inr (.inr (.inr (.inr (⟨rfl, Z0.out, Z1.out, Z2.out, Z3.out, (by rw [HN.out]), (by rw [HN.out]), Y0.out, Y1.out, Y2.out, Y3.out, (by rw [HN.out])⟩))))), (by have k := st; rw [HX2.out] at k; exact k)⟩
              case measure => simp [intOf]
            · have hN0 := Lib.hid (show lmost s q M32 = nV s p by unfold nV opt; rw [← HC.out, ← HX.out.2.2, hx, ← HQ.out]; rfl)
              rw [hx] at h2
              have HX2 := Lib.hid hx
              clear hx
              go_wp2_with fail
              refine (rmost32 hqs hs' _).mono ?_
              rintro x w5 ⟨rfl, rfl⟩
              have hN : lmost s q M32 = nV s p := hN0.out
              have hnx := lmost_next s q M32 hqs
              rw [hN] at hnx ⊢
              clear hN
              obtain ⟨⟨vn, er, qn⟩, hn⟩ : ∃ t, t = nV s p := ⟨_, rfl⟩
              rw [← hn] at hnx ⊢
              simp only at hnx ⊢
              have HN := Lib.hid hn
              clear hn
              by_cases z : er = 0
              · have zz : ((er : Int) != 0) = false := by simp [z]
                have Zn := Lib.hid z
                have fg := frozen_blk st.cg 4
                clear z
                go_wp2_with fail
                go_roundw
                case rel => exact ⟨5, qn, v0, v1, v2, v3, vn, by go_num, rfl, hnx, .inr (.inr (.inr (.inr (.inr (⟨rfl, Z0.out, Z1.out, Z2.out, Z3.out, (by rw [← HN.out]; exact Zn.out), (by rw [← HN.out]), Y0.out, Y1.out, Y2.out, Y3.out, (by rw [← HN.out])⟩))))), (by have k := st.num 4 vn rfl; rw [HX2.out] at k; exact k)⟩
                case measure => simp [intOf]
              · have zz : ((er : Int) != 0) = true := by simp [z]
                have hE : nxE s p = er := by
                  unfold nxE
                  rw [← HC.out, if_pos HK.out, if_neg (by rw [Z0.out]; decide), if_neg (by rw [Z1.out]; decide), if_neg (by rw [Z2.out]; decide), if_neg (by rw [Z3.out]; decide)]
                  rw [← HN.out]
                have Zn := Lib.hid (And.intro z hE)
                clear z hE
                go_wp2_with fail
                exact bodyPost_ret (v := .tuple #[.slice none 0 0, .int .i64 er]) (by simp [results, Try.results97, go_sem]) rfl (evs_nil hp HE.out.1 HE.out.2 (nxT_e Zn.out.2 Zn.out.1) (by have := Zn.out.1; omega) st.bel)
          · obtain ⟨rfl, z0, z1, z2, z3, z4, hq, w0, w1, w2', w3, w4⟩ := HZ
            have V0 : v0 ≤ 4294967295 := by rw [w0]; exact lmost_le z0
            have V1 : v1 ≤ 4294967295 := by rw [w1]; exact lmost_le z1
            have V2 : v2 ≤ 4294967295 := by rw [w2']; exact opt_le z2
            have V3 : v3 ≤ 4294967295 := by rw [w3]; exact opt_le z3
            have V4 : v4 ≤ 4294967295 := by rw [w4]; exact opt_le z4
            have hE0 : nxE s p = 0 := by
              unfold nxE
              rw [← HC.out, if_pos HK.out, if_neg (by rw [z0]; decide), if_neg (by rw [z1]; decide), if_neg (by rw [z2]; decide), if_neg (by rw [z3]; decide)]
              exact z4
            have hG : nxG s p = (v0 : Int) + unfoldV v1 := by unfold nxG; rw [← w0, ← w1]
            have hEv : nxEv cy' ct' s p = ⟨c, cy' + ((v0 : Int) + unfoldV v1).toNat, ct' + v0, v2, v3, v4⟩ := by unfold nxEv; rw [hG, ← HC.out, ← w0, ← w2', ← w3, ← w4]
            have HE0 := Lib.hid hE0
            have HG := Lib.hid hG
            have HEV := Lib.hid hEv
            have HQ := Lib.hid hq
            have HPQ := Lib.hid (nV_gt s p)
            have W0 := Lib.hid w0
            clear hE0 hG hEv hq z0 z1 z2 z3 z4 w0 w1 w2' w3 w4
            obtain ⟨e0, e1, e2, e3, e4, e5⟩ := ev_cells st.co
            have ef1 := frozen_blk st.co 1
            have ef2 := frozen_blk st.co 2
            have ef3 := frozen_blk st.co 3
            have ef4 := frozen_blk st.co 4
            have ef5 := frozen_blk st.co 5
            simp only at e0 e1 e2 e3 e4 e5
            have hog := st.oh
            have hgg := st.hg
            have ne1 : o ≠ g := by omega
            have ne2 : g ≠ o := by omega
            clear h0 h1 h2
            have st3 : DSt w u8 l o hb g ⟨c, 0, 0, v2, v3, v4⟩ xa xb xv v0 v1 v2 v3 v4 (((wr.setCell ⟨o, 3, none⟩ (.int .u32 v2)).setCell ⟨o, 4, none⟩ (.int .u32 v3)).setCell ⟨o, 5, none⟩ (.int .u32 v4)) := ((st.store 3 (.int .u32 v2) (e' := ⟨c, 0, 0, v2, 0, 0⟩) rfl).store 4 (.int .u32 v3) (e' := ⟨c, 0, 0, v2, v3, 0⟩) rfl).store 5 (.int .u32 v4) rfl
            have HW0 := Lib.hid (show (n1 s p).1 = v0 from W0.out.symm)
            by_cases par : v1 % 2 = 1
            · have pa : ((v1 : Int) % 2 == 1) = true := by simp; omega
              go_upto_region 27 with fail
              generalize (((wr.setCell ⟨o, 3, none⟩ (.int .u32 v2)).setCell ⟨o, 4, none⟩ (.int .u32 v3)).setCell ⟨o, 5, none⟩ (.int .u32 v4)) = W3 at st3 ⊢
              clear e0 e1 e2 e3 e4 e5 ef1 ef2 ef3 ef4 ef5 g0 g1 g2 g3 g4 st
              obtain ⟨g0, g1, g2, g3, g4⟩ := five st3.cg
              obtain ⟨e0, e1, e2, e3, e4, e5⟩ := ev_cells st3.co
              have ef1 := frozen_blk st3.co 1
              have ef2 := frozen_blk st3.co 2
              have ef3 : True := trivial
              have ef4 : True := trivial
              have ef5 : True := trivial
              simp only at e0 e1 e2 e3 e4 e5
              obtain ⟨un, hun⟩ : ∃ un : Nat, un = v1 / 2 + 1 := ⟨_, rfl⟩
              have hun' : (v1 : Int) / 2 + 1 = un := by omega
              have hu : unfoldV v1 = -(un : Int) := by unfold unfoldV; rw [if_neg (by omega)]; omega
              rw [hun']
              have hG := HG.out
              have hEV := HEV.out
              rw [hu] at hG hEV
              have HUN := Lib.hid (show un ≤ 4294967296 by omega)
              clear HG HEV hun hun' hu pa par
              by_cases n0 : v0 < un
              · have m0 : (v0 : Int) < un := by omega
                have N0 := Lib.hid (show ¬ (0 : Int) ≤ (v0 : Int) + -(un : Int) by omega)
                have HG := Lib.hid hG
                clear n0 hG hEV
                have HT := Lib.hid (show nxT cy' ct' s p = 5 from nxT_bad HE0.out (by unfold nxOk; rw [HG.out, show decide ((0 : Int) ≤ (v0 : Int) + -(un : Int)) = false from by simpa using N0.out]; rfl))
                go_wp2_with fail
                exact bodyPost_ret (v := .tuple #[.slice none 0 0, .int .i64 5]) (by simp [results, Try.results97, go_sem]) rfl (evs_nil hp HE.out.1 HE.out.2 HT.out (by decide) st3.bel)
              · have m0 : ¬ (v0 : Int) < un := by omega
                obtain ⟨gr, hgr⟩ : ∃ gr : Nat, gr = v0 - un := ⟨_, rfl⟩
                have hg0 : (v0 : Int) - un = gr := by omega
                have hg1 : IntKind.u64.wrap ((v0 : Int) - un) = gr := by rw [IntKind.wrap_u64]; omega
                have HG := Lib.hid (show nxG s p = (gr : Int) by rw [hG]; omega)
                have HEV := Lib.hid (show nxEv cy' ct' s p = ⟨c, cy' + gr, ct' + v0, v2, v3, v4⟩ by rw [hEV, show ((v0 : Int) + -(un : Int)).toNat = gr by omega])
                clear n0 hG hEV hgr
                obtain ⟨X2, hX2, p1, p2⟩ : ∃ X : Nat, IntKind.u64.wrap ((ct' : Int) + v0) = X ∧ (ct' + v0 < 18446744073709551616 → X = ct' + v0) ∧ (18446744073709551616 ≤ ct' + v0 → X < ct') := ⟨(ct' + v0) % 18446744073709551616, by rw [IntKind.wrap_u64]; omega, by omega, by omega⟩
                obtain ⟨X1, hX1, p3, p4⟩ : ∃ X : Nat, IntKind.u64.wrap ((cy' : Int) + gr) = X ∧ (cy' + gr < 18446744073709551616 → X = cy' + gr) ∧ (18446744073709551616 ≤ cy' + gr → X < cy') := ⟨(cy' + gr) % 18446744073709551616, by rw [IntKind.wrap_u64]; omega, by omega, by omega⟩
                have hX1u : X1 < 18446744073709551616 := by have : (X1 : Int) = IntKind.u64.wrap ((cy' : Int) + gr) := hX1.symm; rw [IntKind.wrap_u64] at this; omega
                have hX2u : X2 < 18446744073709551616 := by have : (X2 : Int) = IntKind.u64.wrap ((ct' : Int) + v0) := hX2.symm; rw [IntKind.wrap_u64] at this; omega
                have HU := Lib.hid (And.intro hX1u hX2u)
                clear hX1u hX2u
                by_cases c0 : 18446744073709551616 ≤ ct' + v0
                · have m1 : (X2 : Int) < ct' := by have := p2 c0; omega
                  have C0 := Lib.hid c0
                  clear p1 p2 p3 p4 c0
                  have HT := Lib.hid (show nxT cy' ct' s p = 5 from nxT_bad HE0.out (by unfold nxOk; rw [HW0.out, show decide (ct' + v0 < 18446744073709551616) = false from by simp; exact C0.out]; simp))
                  go_wp2_with fail
                  exact bodyPost_ret (v := .tuple #[.slice none 0 0, .int .i64 5]) (by simp [results, Try.results97, go_sem]) rfl (evs_nil hp HE.out.1 HE.out.2 HT.out (by decide) st3.bel)
                · have q2 := p1 (by omega)
                  have m1 : ¬ ((X2 : Int) < ct') := by omega
                  by_cases c1 : 18446744073709551616 ≤ cy' + gr
                  · have m2 : (X1 : Int) < cy' := by have := p4 c1; omega
                    have C1 := Lib.hid c1
                    clear p1 p2 p3 p4 c0 c1 q2
                    have HT := Lib.hid (show nxT cy' ct' s p = 5 from nxT_bad HE0.out (by unfold nxOk; rw [HG.out, Int.toNat_natCast, show decide (cy' + gr < 18446744073709551616) = false from by simp; exact C1.out]; simp))
                    go_wp2_with fail
                    exact bodyPost_ret (v := .tuple #[.slice none 0 0, .int .i64 5]) (by simp [results, Try.results97, go_sem]) rfl (evs_nil hp HE.out.1 HE.out.2 HT.out (by decide) st3.bel)
                  · have q1 := p3 (by omega)
                    have m2 : ¬ ((X1 : Int) < cy') := by omega
                    have hev : nxEv cy' ct' s p = ⟨c, X1, X2, v2, v3, v4⟩ := by rw [HEV.out, q1, q2]
                    have hok : nxOk cy' ct' s p = decide ((Ev.chk ⟨c, X1, X2, v2, v3, v4⟩) = 0) := by
                      unfold nxOk
                      rw [hev, HG.out, HW0.out, Int.toNat_natCast, show decide ((0 : Int) ≤ (gr : Int)) = true from by simp, show decide (ct' + v0 < 18446744073709551616) = true from by simp; omega, show decide (cy' + gr < 18446744073709551616) = true from by simp; omega]
                      rfl
                    have HEQ := Lib.hid hev
                    have HOK := Lib.hid hok
                    have hck := fun x => rcheck_any ⟨c, X1, X2, v2, v3, v4⟩ x
                    simp only [Ev.val] at hck
                    clear p1 p2 p3 p4 c0 c1 q1 q2 hev hok
                    generalize hcc : (Ev.chk ⟨c, X1, X2, v2, v3, v4⟩) = cc at hck HOK
                    clear hcc
                    have st4 : DSt w u8 l o hb g ⟨c, X1, X2, v2, v3, v4⟩ xa xb xv v0 v1 v2 v3 v4 ((W3.setCell ⟨o, 2, none⟩ (.int .u64 X2)).setCell ⟨o, 1, none⟩ (.int .u64 X1)) := (st3.store 2 (.int .u64 X2) (e' := ⟨c, 0, X2, v2, v3, v4⟩) rfl).store 1 (.int .u64 X1) rfl
                    go_wp2_with fail
                    clear e0 e1 e2 e3 e4 e5 ef1 ef2 ef3 ef4 ef5 g0 g1 g2 g3 g4
                    generalize (W3.setCell ⟨o, 2, none⟩ (.int .u64 X2)).setCell ⟨o, 1, none⟩ (.int .u64 X1) = W4 at st4 ⊢
                    refine (hck _).mono ?_
                    rintro x w9 ⟨rfl, hk9⟩
                    have st5 := st4.below hk9
                    clear hk9 st4 hck st3
                    obtain ⟨e0, e1, e2, e3, e4, e5⟩ := ev_cells st5.co
                    simp only at e0 e1 e2 e3 e4 e5
                    by_cases z : cc = 0
                    · have zz : (cc != 0) = false := by simp [z]
                      have HT := Lib.hid (show nxT cy' ct' s p = 0 by unfold nxT; rw [if_pos HE0.out, HOK.out, z]; rfl)
                      have hlq : l.length + 1 ≤ q := by have := HPQ.out; have := HQ.out; omega
                      have hs9 := HS.out
                      have ho5 := st5.own.alloc (.cells #[.int .i64 c, .int .u64 X1, .int .u64 X2, .int .u32 v2, .int .u32 v3, .int .u32 v4] 25)
                      have hb5 := st5.bel.alloc st5.bel.size (.cells #[.int .i64 c, .int .u64 X1, .int .u64 X2, .int .u32 v2, .int .u32 v3, .int .u32 v4] 25)
                      have hsr := src_ev w9 ⟨c, X1, X2, v2, v3, v4⟩
                      have hbw := st5.bel.size
                      clear z
                      go_wp2_with (at_builtin; (refine list_append rfl (.tmp 132) (.tmp 134) 40 rfl w.heap.size (by simp; omega) 25 i0 _ 6 40 ul hi hz0 hz1 hz2 rfl (by decide) u8 l.length (evCells l) rfl ho5 _ 1 (evCells [⟨c, X1, X2, v2, v3, v4⟩]) rfl rfl hsr (evCells_one _) (by unfold maxLen; omega) (by omega) ?_); intro ao cap w10 hown' hg' hat; have hB10 := below_append hb5 ho5 hg' (by simp; omega))
                      obtain ⟨hk, he⟩ := HE.out
                      obtain ⟨gg, rfl⟩ : ∃ gg, gk = gg + 1 := ⟨gk - 1, by omega⟩
                      have hq := HQ.out
                      have hpq := HPQ.out
                      go_roundg gg
                      case measure => omega
                      case rel =>
                        have e1 : evCells (l ++ [⟨c, X1, X2, v2, v3, v4⟩]) = evCells l ++ evCells [⟨c, X1, X2, v2, v3, v4⟩] := by simp [evCells]
                        refine ⟨X1, X2, q, l ++ [⟨c, X1, X2, v2, v3, v4⟩], rfl, rfl, rfl, HU.out.1, HU.out.2, hqs, by rw [List.length_append]; exact hlq, hB10, ?_, by omega, he.trans (rdL_step hp HT.out l HEQ.out.symm hq)⟩
                        rw [e1, List.length_append]; exact hown'
                    · have zz : (cc != 0) = true := by simp [z]
                      have HT := Lib.hid (show nxT cy' ct' s p = 5 from nxT_bad HE0.out (by rw [HOK.out]; simp [z]))
                      clear z
                      go_wp2_with fail
                      exact bodyPost_ret (v := .tuple #[.slice none 0 0, .int .i64 5]) (by simp [results, Try.results97, go_sem]) rfl (evs_nil hp HE.out.1 HE.out.2 HT.out (by decide) st5.bel)
            · have pa : ((v1 : Int) % 2 == 1) = false := by simp; omega
              go_upto_region 27 with fail
              generalize (((wr.setCell ⟨o, 3, none⟩ (.int .u32 v2)).setCell ⟨o, 4, none⟩ (.int .u32 v3)).setCell ⟨o, 5, none⟩ (.int .u32 v4)) = W3 at st3 ⊢
              clear e0 e1 e2 e3 e4 e5 ef1 ef2 ef3 ef4 ef5 g0 g1 g2 g3 g4 st
              obtain ⟨g0, g1, g2, g3, g4⟩ := five st3.cg
              obtain ⟨e0, e1, e2, e3, e4, e5⟩ := ev_cells st3.co
              have ef1 := frozen_blk st3.co 1
              have ef2 := frozen_blk st3.co 2
              have ef3 : True := trivial
              have ef4 : True := trivial
              have ef5 : True := trivial
              simp only at e0 e1 e2 e3 e4 e5
              obtain ⟨un, hun⟩ : ∃ un : Nat, un = v1 / 2 := ⟨_, rfl⟩
              have hun' : (v1 : Int) / 2 = un := by omega
              have hu : unfoldV v1 = (un : Int) := by unfold unfoldV; rw [if_pos (by omega)]; omega
              rw [hun']
              have hG := HG.out
              have hEV := HEV.out
              rw [hu] at hG hEV
              have hul : un ≤ 4294967296 := by omega
              clear HG HEV hun hun' hu pa par
              obtain ⟨gr, hgr⟩ : ∃ gr : Nat, gr = v0 + un := ⟨_, rfl⟩
              have hg0 : (v0 : Int) + un = gr := by omega
              have hg1 : IntKind.u64.wrap ((v0 : Int) + un) = gr := by rw [IntKind.wrap_u64]; omega
              have m0 : ¬ (gr : Int) < 0 := by omega
              have hgl : (gr : Int) < 18446744073709551616 := by omega
              have HG := Lib.hid (show nxG s p = (gr : Int) by rw [hG]; omega)
              have HEV := Lib.hid (show nxEv cy' ct' s p = ⟨c, cy' + gr, ct' + v0, v2, v3, v4⟩ by rw [hEV, show ((v0 : Int) + (un : Int)).toNat = gr by omega])
              clear hG hEV hgr
              obtain ⟨X2, hX2, p1, p2⟩ : ∃ X : Nat, IntKind.u64.wrap ((ct' : Int) + v0) = X ∧ (ct' + v0 < 18446744073709551616 → X = ct' + v0) ∧ (18446744073709551616 ≤ ct' + v0 → X < ct') := ⟨(ct' + v0) % 18446744073709551616, by rw [IntKind.wrap_u64]; omega, by omega, by omega⟩
              obtain ⟨X1, hX1, p3, p4⟩ : ∃ X : Nat, IntKind.u64.wrap ((cy' : Int) + gr) = X ∧ (cy' + gr < 18446744073709551616 → X = cy' + gr) ∧ (18446744073709551616 ≤ cy' + gr → X < cy') := ⟨(cy' + gr) % 18446744073709551616, by rw [IntKind.wrap_u64]; omega, by omega, by omega⟩
              have hX1u : X1 < 18446744073709551616 := by have : (X1 : Int) = IntKind.u64.wrap ((cy' : Int) + gr) := hX1.symm; rw [IntKind.wrap_u64] at this; omega
              have hX2u : X2 < 18446744073709551616 := by have : (X2 : Int) = IntKind.u64.wrap ((ct' : Int) + v0) := hX2.symm; rw [IntKind.wrap_u64] at this; omega
              have HU := Lib.hid (And.intro hX1u hX2u)
              clear hX1u hX2u
              by_cases c0 : 18446744073709551616 ≤ ct' + v0
              · have m1 : (X2 : Int) < ct' := by have := p2 c0; omega
                have C0 := Lib.hid c0
                clear p1 p2 p3 p4 c0
                have HT := Lib.hid (show nxT cy' ct' s p = 5 from nxT_bad HE0.out (by unfold nxOk; rw [HW0.out, show decide (ct' + v0 < 18446744073709551616) = false from by simp; exact C0.out]; simp))
                go_wp2_with fail
                exact bodyPost_ret (v := .tuple #[.slice none 0 0, .int .i64 5]) (by simp [results, Try.results97, go_sem]) rfl (evs_nil hp HE.out.1 HE.out.2 HT.out (by decide) st3.bel)
              · have q2 := p1 (by omega)
                have m1 : ¬ ((X2 : Int) < ct') := by omega
                by_cases c1 : 18446744073709551616 ≤ cy' + gr
                · have m2 : (X1 : Int) < cy' := by have := p4 c1; omega
                  have C1 := Lib.hid c1
                  clear p1 p2 p3 p4 c0 c1 q2
                  have HT := Lib.hid (show nxT cy' ct' s p = 5 from nxT_bad HE0.out (by unfold nxOk; rw [HG.out, Int.toNat_natCast, show decide (cy' + gr < 18446744073709551616) = false from by simp; exact C1.out]; simp))
                  go_wp2_with fail
                  exact bodyPost_ret (v := .tuple #[.slice none 0 0, .int .i64 5]) (by simp [results, Try.results97, go_sem]) rfl (evs_nil hp HE.out.1 HE.out.2 HT.out (by decide) st3.bel)
                · have q1 := p3 (by omega)
                  have m2 : ¬ ((X1 : Int) < cy') := by omega
                  have hev : nxEv cy' ct' s p = ⟨c, X1, X2, v2, v3, v4⟩ := by rw [HEV.out, q1, q2]
                  have hok : nxOk cy' ct' s p = decide ((Ev.chk ⟨c, X1, X2, v2, v3, v4⟩) = 0) := by
                    unfold nxOk
                    rw [hev, HG.out, HW0.out, Int.toNat_natCast, show decide ((0 : Int) ≤ (gr : Int)) = true from by simp, show decide (ct' + v0 < 18446744073709551616) = true from by simp; omega, show decide (cy' + gr < 18446744073709551616) = true from by simp; omega]
                    rfl
                  have HEQ := Lib.hid hev
                  have HOK := Lib.hid hok
                  have hck := fun x => rcheck_any ⟨c, X1, X2, v2, v3, v4⟩ x
                  simp only [Ev.val] at hck
                  clear p1 p2 p3 p4 c0 c1 q1 q2 hev hok
                  generalize hcc : (Ev.chk ⟨c, X1, X2, v2, v3, v4⟩) = cc at hck HOK
                  clear hcc
                  have st4 : DSt w u8 l o hb g ⟨c, X1, X2, v2, v3, v4⟩ xa xb xv v0 v1 v2 v3 v4 ((W3.setCell ⟨o, 2, none⟩ (.int .u64 X2)).setCell ⟨o, 1, none⟩ (.int .u64 X1)) := (st3.store 2 (.int .u64 X2) (e' := ⟨c, 0, X2, v2, v3, v4⟩) rfl).store 1 (.int .u64 X1) rfl
                  go_wp2_with fail
                  clear e0 e1 e2 e3 e4 e5 ef1 ef2 ef3 ef4 ef5 g0 g1 g2 g3 g4
                  generalize (W3.setCell ⟨o, 2, none⟩ (.int .u64 X2)).setCell ⟨o, 1, none⟩ (.int .u64 X1) = W4 at st4 ⊢
                  refine (hck _).mono ?_
                  rintro x w9 ⟨rfl, hk9⟩
                  have st5 := st4.below hk9
                  clear hk9 st4 hck st3
                  obtain ⟨e0, e1, e2, e3, e4, e5⟩ := ev_cells st5.co
                  simp only at e0 e1 e2 e3 e4 e5
                  by_cases z : cc = 0
                  · have zz : (cc != 0) = false := by simp [z]
                    have HT := Lib.hid (show nxT cy' ct' s p = 0 by unfold nxT; rw [if_pos HE0.out, HOK.out, z]; rfl)
                    have hlq : l.length + 1 ≤ q := by have := HPQ.out; have := HQ.out; omega
                    have hs9 := HS.out
                    have ho5 := st5.own.alloc (.cells #[.int .i64 c, .int .u64 X1, .int .u64 X2, .int .u32 v2, .int .u32 v3, .int .u32 v4] 25)
                    have hb5 := st5.bel.alloc st5.bel.size (.cells #[.int .i64 c, .int .u64 X1, .int .u64 X2, .int .u32 v2, .int .u32 v3, .int .u32 v4] 25)
                    have hsr := src_ev w9 ⟨c, X1, X2, v2, v3, v4⟩
                    have hbw := st5.bel.size
                    clear z
                    go_wp2_with (at_builtin; (refine list_append rfl (.tmp 132) (.tmp 134) 40 rfl w.heap.size (by simp; omega) 25 i0 _ 6 40 ul hi hz0 hz1 hz2 rfl (by decide) u8 l.length (evCells l) rfl ho5 _ 1 (evCells [⟨c, X1, X2, v2, v3, v4⟩]) rfl rfl hsr (evCells_one _) (by unfold maxLen; omega) (by omega) ?_); intro ao cap w10 hown' hg' hat; have hB10 := below_append hb5 ho5 hg' (by simp; omega))
                    obtain ⟨hk, he⟩ := HE.out
                    obtain ⟨gg, rfl⟩ : ∃ gg, gk = gg + 1 := ⟨gk - 1, by omega⟩
                    have hq := HQ.out
                    have hpq := HPQ.out
                    go_roundg gg
                    case measure => omega
                    case rel =>
                      have e1 : evCells (l ++ [⟨c, X1, X2, v2, v3, v4⟩]) = evCells l ++ evCells [⟨c, X1, X2, v2, v3, v4⟩] := by simp [evCells]
                      refine ⟨X1, X2, q, l ++ [⟨c, X1, X2, v2, v3, v4⟩], rfl, rfl, rfl, HU.out.1, HU.out.2, hqs, by rw [List.length_append]; exact hlq, hB10, ?_, by omega, he.trans (rdL_step hp HT.out l HEQ.out.symm hq)⟩
                      rw [e1, List.length_append]; exact hown'
                  · have zz : (cc != 0) = true := by simp [z]
                    have HT := Lib.hid (show nxT cy' ct' s p = 5 from nxT_bad HE0.out (by rw [HOK.out]; simp [z]))
                    clear z
                    go_wp2_with fail
                    exact bodyPost_ret (v := .tuple #[.slice none 0 0, .int .i64 5]) (by simp [results, Try.results97, go_sem]) rfl (evs_nil hp HE.out.1 HE.out.2 HT.out (by decide) st5.bel)
    · have hpi : ¬ (p : Int) < s.size := by omega
      go_wp2_with fail
      have hlt : rdL s s.size cy ct 0 = (l, 0) := by
        obtain ⟨hk, he⟩ := HE.out
        rw [he]
        cases gk with
        | zero => simp [rdL]
        | succ g => rw [rdL, if_neg hp]; simp
      obtain ⟨ao, cap, hcap⟩ := owns_form hown
      rw [hcap] at hown ⊢
      refine bodyPost_ret (v := .tuple #[.slice ao l.length cap, .int .i64 0]) (by simp [results, Try.results97, go_sem]) rfl ?_
      have e9 : rdS s cy ct = l := by unfold rdS; rw [hlt, if_pos rfl]
      rw [hlt, e9]
      exact ⟨ao, cap, rfl, hown, hbel⟩
end Go.Proofs.Ytbfipgeoecbpaaa
