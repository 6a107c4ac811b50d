/- Contract of coil.Read. No condition but those that it names. -/
import Derived.Test.YthdenjokedmcfaaNxB
import Derived.Test.YthdenjokedmcfaaCoilL
import Derived.Test.YthdenjokedmcfaaOwnEv
import Derived.Deep.LoopGhost
import Derived.Deep.Onto
import Derived.Sort.OwnSorted
namespace Go.Proofs.Ythdenjokedmcfaa
open Go.RowKit
set_option maxRecDepth 20000
theorem own_only {S : Nat → Prop} {w w' : World} {base : Nat} {e : TypeId} {size : Nat} {v : Value} {n : Nat} {xs : List Value} (h : w.ownsRow base e size v n xs) (o : Only S w w') (hS : ∀ k, S k → k < base) : w'.ownsRow base e size v n xs := by
  rcases h.2 with h0 | ⟨g, cap, cur, rfl, hbg, hb, hr⟩
  · exact ⟨h.1, .inl h0⟩
  · exact ⟨h.1, .inr ⟨g, cap, cur, rfl, hbg, o.keeps hb fun x => absurd (hS _ x) (by omega), hr⟩⟩
theorem own_set {w : World} {base : Nat} {e : TypeId} {size : Nat} {v : Value} {n : Nat} {xs : List Value} (h : w.ownsRow base e size v n xs) (p : Addr) (u : Value) (hp : p.block < base) : (w.setCell p u).ownsRow base e size v n xs :=
  own_only h ((Only.refl (fun k => k = p.block) w).setCell p u fun _ => rfl) fun _ hk => by rw [hk]; exact hp
theorem own_below {w w' : World} {base : Nat} {e : TypeId} {size : Nat} {v : Value} {n : Nat} {xs : List Value} (h : w.ownsRow base e size v n xs) (k : Below w.heap.size w w') : w'.ownsRow base e size v n xs :=
  own_only h (Only.of_below k (fun _ => False)) fun _ hk => hk.elim
theorem ev_info : ∃ i, Try.prog.info? 85 = some i ∧ i.zero = some (.agg #[.int .i64 0, .int .u64 0, .int .u64 0, .int .u32 0, .int .u32 0, .int .u32 0]) ∧ i.size = 6 ∧ i.bytes = 40 := by
  have h : Try.prog.info? 85 = some ((Try.prog.info? 85).get (by kernel_rfl)) := (Option.some_get _).symm
  exact ⟨_, h, by kernel_rfl, by kernel_rfl, by kernel_rfl⟩
/-- What Read answers: the events, in a slice of its own; the error. -/
def EvsPost (w : World) (l : List Ev) (er : Int) (x : Ending) (w' : World) : Prop :=
  ∃ ao cap, x = .returned (.tuple #[.slice ao l.length cap, .int .i64 er]) ∧ w'.ownsRow w.heap.size 85 6 (.slice ao l.length cap) l.length (evCells l) ∧ Below w.heap.size w w'
def rdS (s : ByteArray) (cy ct : Nat) : List Ev := if (rdL s s.size cy ct 0).2 = 0 then (rdL s s.size cy ct 0).1 else []
/-- Where Read stands. -/
structure LI (w : World) (s : ByteArray) (R B : Nat) (e : Ev) (l : List Ev) (p : Nat) (out : Value) (wr : World) : Prop where
  rd : IsRd wr R s p
  bel : Below w.heap.size w wr
  bb : wr.heap[B]? = some (.cells e.cells.toArray 85 (0, 0))
  own : wr.ownsRow (B + 1) 85 6 out l.length (evCells l)
  hp : p ≤ s.size
  lr : w.heap.size ≤ R
  rb : R < B
  len : l.length ≤ p
theorem LI.size {w : World} {s : ByteArray} {R B : Nat} {e : Ev} {l : List Ev} {p : Nat} {out : Value} {wr : World} (h : LI w s R B e l p out wr) : B + 1 ≤ wr.heap.size := blk_lt h.bb
theorem LI.nbel {w : World} {s : ByteArray} {R B : Nat} {e : Ev} {l : List Ev} {p : Nat} {out : Value} {wr w2 : World} {n : Nat} (h : LI w s R B e l p out wr) (o : Only (fun k => k = R) (wr.drewN n) w2) : Below w.heap.size w w2 :=
  have hl := h.lr
  ((Only.of_below h.bel (fun _ => False)).drewN n |>.trans o fun i hi hk => absurd hi (by omega)).below (Nat.le_refl _) fun _ _ x => x
theorem LI.next {w : World} {s : ByteArray} {R B : Nat} {e : Ev} {l : List Ev} {p q : Nat} {out : Value} {wr w2 : World} {n : Nat} (h : LI w s R B e l p out wr) (o : Only (fun k => k = R) (wr.drewN n) w2) (hr : IsRd w2 R s q) (hq : q ≤ s.size) (hpq : p ≤ q) : LI w s R B e l q out w2 :=
  have hb := h.size
  have hl := h.lr
  have hrb := h.rb
  { rd := hr
    bel := ((Only.of_below h.bel (fun _ => False)).drewN n |>.trans o fun i hi hk => absurd hi (by omega)).below (Nat.le_refl _) fun _ _ x => x
    bb := o.keeps (S := fun k => k = R) h.bb (by omega)
    own := own_only (w := wr.drewN n) (S := fun k => k = R) (by exact h.own) o fun k hk => by omega
    hp := hq
    lr := h.lr
    rb := h.rb
    len := Nat.le_trans h.len hpq }
theorem LI.below {w : World} {s : ByteArray} {R B : Nat} {e : Ev} {l : List Ev} {p : Nat} {out : Value} {wr w2 : World} (h : LI w s R B e l p out wr) (k : Below wr.heap.size wr w2) : LI w s R B e l p out w2 :=
  { h with rd := h.rd.kept k, bel := h.bel.trans (k.mono h.bel.size), bb := (k.block _ (blk_lt h.bb)).trans h.bb, own := own_below h.own k }
theorem LI.alloc {w : World} {s : ByteArray} {R B : Nat} {e : Ev} {l : List Ev} {p : Nat} {out : Value} {wr : World} (h : LI w s R B e l p out wr) (x : Obj) : LI w s R B e l p out (wr.alloc x) :=
  h.below ((Below.refl wr.heap.size wr).alloc (Nat.le_refl _) x)
theorem LI.grow {w : World} {s : ByteArray} {R B : Nat} {e e2 : Ev} {l : List Ev} {p : Nat} {out out' : Value} {wr w2 : World} (h : LI w s R B e l p out wr) (hg : wr.grownBy w2 out.ownBlock) (ho : w2.ownsRow (B + 1) 85 6 out' (l.length + 1) (evCells l ++ evCells [e2])) (hl : l.length + 1 ≤ p) : LI w s R B e (l ++ [e2]) p out' w2 :=
  have hk := fun k hk => (h.own.lt k hk).1
  have hlr := h.lr
  have hrb := h.rb
  { h with
    rd := (hg.block R (blk_lt h.rd) fun x => by have := hk R x.symm; omega).trans h.rd
    bel := h.bel.trans ⟨hg.os, hg.tape, hg.output, hg.size, fun k hk' => hg.block k (Nat.lt_of_lt_of_le hk' h.bel.size) fun x => by have := hk k x.symm; omega⟩
    bb := (hg.block B (blk_lt h.bb) fun x => by have := hk B x.symm; omega).trans h.bb
    own := by
      have e1 : evCells (l ++ [e2]) = evCells l ++ evCells [e2] := by simp [evCells]
      rw [e1, List.length_append]; exact ho
    len := by rw [List.length_append]; exact hl }
/-- The event before is put. -/
theorem LI.store {w : World} {s : ByteArray} {R B : Nat} {e : Ev} {l : List Ev} {p : Nat} {out : Value} {wr : World} (h : LI w s R B e l p out wr) (e2 : Ev) :
    LI w s R B e2 l p out ((((((wr.setCell ⟨B, 0, none⟩ (.int .i64 e2.k)).setCell ⟨B, 1, none⟩ (.int .u64 e2.cy)).setCell ⟨B, 2, none⟩ (.int .u64 e2.ct)).setCell ⟨B, 3, none⟩ (.int .u32 e2.a)).setCell ⟨B, 4, none⟩ (.int .u32 e2.b)).setCell ⟨B, 5, none⟩ (.int .u32 e2.v)) :=
  have hlr := h.lr
  have hrb := h.rb
  have hne : R ≠ B := by omega
  { h with
    rd := blk_setCell_other (blk_setCell_other (blk_setCell_other (blk_setCell_other (blk_setCell_other (blk_setCell_other h.rd hne _) hne _) hne _) hne _) hne _) hne _
    bel := (((((((Only.of_below h.bel (fun _ => False)).setCell ⟨B, 0, none⟩ _ fun x => absurd x (by simp; omega)).setCell ⟨B, 1, none⟩ _ fun x => absurd x (by simp; omega)).setCell ⟨B, 2, none⟩ _ fun x => absurd x (by simp; omega)).setCell ⟨B, 3, none⟩ _ fun x => absurd x (by simp; omega)).setCell ⟨B, 4, none⟩ _ fun x => absurd x (by simp; omega)).setCell ⟨B, 5, none⟩ _ fun x => absurd x (by simp; omega)).below (Nat.le_refl _) fun _ _ x => x
    bb := blk_setCell (blk_setCell (blk_setCell (blk_setCell (blk_setCell (blk_setCell h.bb (i := 0) (.int .i64 e2.k)) (i := 1) (.int .u64 e2.cy)) (i := 2) (.int .u64 e2.ct)) (i := 3) (.int .u32 e2.a)) (i := 4) (.int .u32 e2.b)) (i := 5) (.int .u32 e2.v)
    own := own_set (own_set (own_set (own_set (own_set (own_set h.own ⟨B, 0, none⟩ _ (Nat.lt_succ_self _)) ⟨B, 1, none⟩ _ (Nat.lt_succ_self _)) ⟨B, 2, none⟩ _ (Nat.lt_succ_self _)) ⟨B, 3, none⟩ _ (Nat.lt_succ_self _)) ⟨B, 4, none⟩ _ (Nat.lt_succ_self _)) ⟨B, 5, none⟩ _ (Nat.lt_succ_self _) }
theorem src_ev (w : World) (e : Ev) : Src (w.alloc (.cells #[.int .i64 e.k, .int .u64 e.cy, .int .u64 e.ct, .int .u32 e.a, .int .u32 e.b, .int .u32 e.v] 85)) (.slice (some ⟨w.heap.size, 0, none⟩) 1 1) 1 (evCells [e]) := by
  refine .inr ⟨_, 1, rfl, fun j u hj => ?_⟩
  rw [Go.WideShapes.add_plain, cell_blk (heap_alloc_new w _)]
  have e1 : evCells [e] = e.cells := by simp [evCells]
  rw [e1] at hj
  rw [← hj, Nat.zero_add]
  simp [Ev.cells]
theorem rdL_step {s : ByteArray} {f cy ct p : Nat} (hp : p < s.size) (ht : nxT cy ct s p = 0) (l : List Ev) {e : Ev} {q : Nat} (he : e = nxEv cy ct s p) (hq : q = (nV s p).2.2) :
    (l ++ (rdL s (f + 1) cy ct p).1, (rdL s (f + 1) cy ct p).2) = ((l ++ [e]) ++ (rdL s f e.cy e.ct q).1, (rdL s f e.cy e.ct q).2) := by
  rw [rdL, if_pos hp, if_pos ht, ← he, ← hq]
  simp
/-- The number of rounds that may be left. -/
def LR (w : World) (s : ByteArray) (cy ct R B k : Nat) (out : Value) (wr : World) : Prop :=
  ∃ (e : Ev) (l : List Ev) (p : Nat), LI w s R B e l p out wr ∧ e.Wf ∧ s.size - p ≤ k ∧ rdL s s.size cy ct 0 = (l ++ (rdL s k e.cy e.ct p).1, (rdL s k e.cy e.ct p).2)
set_option maxHeartbeats 4000000 in
theorem cread_any (s : ByteArray) (cy ct : Nat) (hcy : cy < 18446744073709551616) (hct : ct < 18446744073709551616) (hs : s.size ≤ 1000000000) (w : World) :
    Calls Try.prog 59 #[.int .u64 cy, .int .u64 ct, .string s] w (EvsPost w (rdS s cy ct) (rdL s s.size cy ct 0).2) := by
  have hs' : s.size ≤ 140737488355328 := by omega
  have HS := Lib.hid hs
  obtain ⟨i0, hi, hz0, hz1, hz2⟩ := ev_info
  have ul : Try.prog.underlying 42 = some (.slice 85) := by kernel_rfl
  have h0 : LI w s w.heap.size (w.heap.size + 1) ⟨0, cy, ct, 0, 0, 0⟩ [] 0 (.slice none 0 0) ((w.alloc (.cells #[.string s, .int .i64 0] 132)).alloc (.cells #[.int .i64 0, .int .u64 cy, .int .u64 ct, .int .u32 0, .int .u32 0, .int .u32 0] 85)) :=
    { rd := blk_alloc (isRd_new s w) _
      bel := ((Below.refl w.heap.size w).alloc (Nat.le_refl _) _).alloc (by simp) _
      bb := by simpa [Ev.cells] using heap_alloc_new (w.alloc (.cells #[.string s, .int .i64 0] 132)) (.cells #[.int .i64 0, .int .u64 cy, .int .u64 ct, .int .u32 0, .int .u32 0, .int .u32 0] 85)
      own := World.ownsRow_nil _ _ _ _
      hp := Nat.zero_le _
      lr := Nat.le_refl _
      rb := Nat.lt_succ_self _
      len := Nat.le_refl _ }
  have hw0 : (Ev.mk 0 cy ct 0 0 0).Wf := ⟨by simp, by simp, hcy, hct, by simp, by simp, by simp⟩
  have HW0 := Lib.hid hw0
  clear hw0 hs
  go_enter Try.func59, Try.ntmps59
  go_wp2_with fail
  refine (new_any _ _).mono ?_
  rintro x w1 ⟨rfl, rfl⟩
  go_wp2_with fail
  generalize (w.alloc (.cells #[.string s, .int .i64 0] 132)).alloc (.cells #[.int .i64 0, .int .u64 cy, .int .u64 ct, .int .u32 0, .int .u32 0, .int .u32 0] 85) = W0 at h0 ⊢
  obtain ⟨R, hR⟩ : ∃ R, R = w.heap.size := ⟨_, rfl⟩
  obtain ⟨B, hB⟩ : ∃ B, B = w.heap.size + 1 := ⟨_, rfl⟩
  rw [← hB] at h0 ⊢
  rw [← hR] at ⊢
  rw [show LI w s w.heap.size = LI w s R by rw [hR]] at h0
  clear hR hB
  go_loopg [10] (s.size) (fun k out wr => LR w s cy ct R B k out wr)
  case atStart => exact ⟨_, [], 0, h0, HW0.out, by omega, by simp⟩
  case round =>
    obtain ⟨e, l, p, hL, hwf, hk, he⟩ := hrel
    have HE := Lib.hid (And.intro hk he)
    clear hk he
    go_wp2_with fail
    refine (left_any hL.rd hL.hp hs').mono ?_
    rintro x w2 ⟨rfl, n, rfl⟩
    by_cases hp : p < s.size
    · have hd : decide ((0 : Int) < (s.size : Int) - p) = true := by simp; omega
      have hd' : (0 : Int) < (s.size : Int) - p := by omega
      have hn := next_any (hL.rd.drewN n) hp hs' e hwf
      obtain ⟨k', cy', ct', a', b', v'⟩ := e
      obtain ⟨c0, c1, c2, c3, c4, c5⟩ := ev_cells hL.bb
      simp only at c0 c1 c2 c3 c4 c5 hn
      go_wp2_with fail
      refine hn.mono ?_
      clear hn c0 c1 c2 c3 c4 c5
      unfold NxPost
      rintro x w3 ⟨⟨k2, cy2, ct2, a2, b2, v2⟩, q, rfl, hz, hr, hq, ho⟩
      have hb3 := hL.nbel ho
      obtain ⟨T, hT⟩ : ∃ T, T = nxT cy' ct' s p := ⟨_, rfl⟩
      rw [← hT] at hz ⊢
      have HT := Lib.hid hT
      clear hT
      unfold Ev.val
      by_cases t0 : T = 0
      · obtain ⟨hev, hq2⟩ := hz t0
        have hpq := nV_gt s p
        have hL2 := hL.next ho hr hq (by omega)
        have zz : (T != 0) = false := by simp [t0]
        have HZ := Lib.hid (And.intro t0 (And.intro hev (And.intro hq2 hpq)))
        have hsz3 := hL2.size
        have hlq : l.length + 1 ≤ q := by have := hL.len; omega
        clear t0 hev hq2 hpq ho hr hq hz hL hb3 h0
        have hb1 := hL2.len
        have hb2 := hL2.hp
        have hs9 := HS.out
        have hL5 := (hL2.alloc (.cells #[.int .i64 k2, .int .u64 cy2, .int .u64 ct2, .int .u32 a2, .int .u32 b2, .int .u32 v2] 85)).alloc (.cells #[.int .i64 k2, .int .u64 cy2, .int .u64 ct2, .int .u32 a2, .int .u32 b2, .int .u32 v2] 85)
        have ho5 := hL5.own
        have hsr := src_ev (w3.alloc (.cells #[.int .i64 k2, .int .u64 cy2, .int .u64 ct2, .int .u32 a2, .int .u32 b2, .int .u32 v2] 85)) ⟨k2, cy2, ct2, a2, b2, v2⟩
        rw [World.size_alloc] at hsr
        have hbo : ((w3.alloc (.cells #[.int .i64 k2, .int .u64 cy2, .int .u64 ct2, .int .u32 a2, .int .u32 b2, .int .u32 v2] 85)).alloc (.cells #[.int .i64 k2, .int .u64 cy2, .int .u64 ct2, .int .u32 a2, .int .u32 b2, .int .u32 v2] 85)).heap[w3.heap.size]? = some (.cells (Ev.cells ⟨k2, cy2, ct2, a2, b2, v2⟩).toArray 85 (0, 0)) := blk_alloc (heap_alloc_new w3 _) _
        have hne5 : ∀ k, u10.ownBlock = some k → k < w3.heap.size := fun k hk => (hL2.own.lt k hk).2
        go_wp2_with (at_builtin; (refine list_append rfl (.tmp 30) (.tmp 32) 42 rfl (B + 1) (by simp; omega) 85 i0 _ 6 40 ul hi hz0 hz1 hz2 rfl (by decide) u10 l.length (evCells l) rfl ho5 _ 1 (evCells [⟨k2, cy2, ct2, a2, b2, v2⟩]) rfl rfl hsr (evCells_one _) (by unfold maxLen; omega) (by omega) ?_); intro ao cap w10 hown' hg hat; have hb10 := (hg.block w3.heap.size (blk_lt hbo) (fun x => Nat.lt_irrefl _ (hne5 _ x.symm))).trans hbo; have hL10 := hL5.grow hg hown' hlq; obtain ⟨y0, y1, y2, y3, y4, y5⟩ := ev_cells hb10; simp only at y0 y1 y2 y3 y4 y5; have yf0 := frozen_blk hL10.bb 0; have yf1 := frozen_blk hL10.bb 1; have yf2 := frozen_blk hL10.bb 2; have yf3 := frozen_blk hL10.bb 3; have yf4 := frozen_blk hL10.bb 4; have yf5 := frozen_blk hL10.bb 5; obtain ⟨z0, z1, z2, z3, z4, z5⟩ := ev_cells hL10.bb; simp only at z0 z1 z2 z3 z4 z5; clear hbo hb10 hg hat hown' hL5 ho5 hsr hne5 hL2)
        obtain ⟨t0, hev, hq2, hpq⟩ := HZ.out
        obtain ⟨hk, he⟩ := HE.out
        obtain ⟨g, rfl⟩ : ∃ g, gk = g + 1 := ⟨gk - 1, by omega⟩
        go_roundg g
        case measure => omega
        case rel =>
          have hwf2 : (Ev.mk k2 cy2 ct2 a2 b2 v2).Wf := by rw [hev]; exact (next_spell (b := ⟨k', cy', ct', a', b', v'⟩) hp (HT.out.symm.trans t0)).2.1
          have hst := hL10.store ⟨k2, cy2, ct2, a2, b2, v2⟩
          exact ⟨⟨k2, cy2, ct2, a2, b2, v2⟩, l ++ [⟨k2, cy2, ct2, a2, b2, v2⟩], q, hst, hwf2, by omega, he.trans (rdL_step hp (HT.out.symm.trans t0) l hev hq2)⟩
      · have zz : (T != 0) = true := by simp [t0]
        have HZ := Lib.hid t0
        clear t0 hz
        clear h0
        go_wp2_with fail
        have hlt : rdL s s.size cy ct 0 = (l, T) := by
          obtain ⟨hk, he⟩ := HE.out
          obtain ⟨g, rfl⟩ : ∃ g, gk = g + 1 := ⟨gk - 1, by omega⟩
          rw [he, rdL, if_pos hp, if_neg (by rw [← HT.out]; exact HZ.out), ← HT.out]
          simp
        refine bodyPost_ret (v := .tuple #[.slice none 0 0, .int .i64 T]) (by simp [results, Try.results59, go_sem]) rfl ?_
        have e9 : rdS s cy ct = [] := by unfold rdS; rw [hlt, if_neg HZ.out]
        rw [hlt, e9]
        exact ⟨none, 0, rfl, World.ownsRow_nil _ _ _ _, hb3.alloc hb3.size _⟩
    · have hd : decide ((0 : Int) < (s.size : Int) - p) = false := by simp; omega
      have hd' : ¬ (0 : Int) < (s.size : Int) - p := by omega
      clear h0
      go_wp2_with fail
      have hlt : rdL s s.size cy ct 0 = (l, 0) := by
        obtain ⟨hk, he⟩ := HE.out
        rw [he]
        cases gk with
        | zero => simp [rdL]
        | succ g => rw [rdL, if_neg hp]; simp
      obtain ⟨ao, cap, hcap⟩ := owns_form hL.own
      have ho := hL.own
      rw [hcap] at ho ⊢
      refine bodyPost_ret (v := .tuple #[.slice ao l.length cap, .int .i64 0]) (by simp [results, Try.results59, go_sem]) rfl ?_
      have e9 : rdS s cy ct = l := by unfold rdS; rw [hlt, if_pos rfl]
      rw [hlt, e9]
      exact ⟨ao, cap, rfl, World.ownsRow.mono (ho : (wr.drewN n).ownsRow _ _ _ _ _ _) (by have := hL.lr; have := hL.rb; omega), below_drewN hL.bel n⟩
end Go.Proofs.Ythdenjokedmcfaa
