/- A recorder into any ring, beside one into a great ring; the walk of the statement of layer 23: RecSmall. -/
import Derived.Test.YtbfipgeoecbpaaaRcL2
import Derived.Test.YtbfipgeoecbpaaaRgF
import Derived.Deep.CutRange
namespace Go.Proofs.Ytbfipgeoecbpaaa
open Go.RowKit
set_option linter.unusedVariables false
set_option linter.unusedSimpArgs false
set_option maxRecDepth 20000
structure SRec (w : World) (x rb room cap : Nat) (pol : Int) (R : Rcd) (O : Nat → Prop) : Prop where
  p : ∃ tb F L lo, RecP w x tb rb room cap pol R L lo F ∧ (∀ k, F k → O k) ∧ O tb
  foot : ∀ k, O k → k < w.heap.size
section
variable {w w' : World} {x rb room cap : Nat} {pol : Int} {R : Rcd} {O : Nat → Prop}
theorem SRec.only {S : Nat → Prop} (h : SRec w x rb room cap pol R O) (o : Only S w w') (hn : ∀ k, O k → ¬ S k) : SRec w' x rb room cap pol R O := by
  obtain ⟨tb, F, L, lo, p, hF, ht⟩ := h.p
  exact ⟨⟨tb, F, L, lo, p.only o (fun k hk => hn k (hF k hk)) (hn tb ht), hF, ht⟩, fun k hk => Nat.lt_of_lt_of_le (h.foot k hk) o.size⟩
theorem SRec.below (h : SRec w x rb room cap pol R O) (k : Below w.heap.size w w') : SRec w' x rb room cap pol R O := h.only (Only.of_below k (fun _ => False)) fun _ _ x => x
theorem srput_any (hpa : PutsAs pol) (h : SRec w x rb room cap pol R O) (hn : R.fr.length ≤ 5000) (e : Ev) (he : e.Wf) : Calls Try.prog 17 #[.pointer (some ⟨x, 0, none⟩), e.val] w fun a w' => a = .returned (.int .i64 (R.err e)) ∧ SRec w' x rb room cap pol (R.put room e) (grow O w w') ∧ Only O w w' := by
  obtain ⟨tb, F, L, lo, p, hF, ht⟩ := h.p
  refine (rput_any hpa p (by omega) e he).mono ?_
  rintro a w1 ⟨rfl, L', lo', rel, p1, on⟩
  refine ⟨rfl, ⟨⟨tb, _, L', lo', p1, ?_, .inl ht⟩, grow_lt h.foot on.size⟩, on.mono fun k _ hk => hF k hk⟩
  rintro k (q | q)
  · exact .inl (hF k q)
  · exact .inr q
theorem srflush_any (hpa : PutsAs pol) (h : SRec w x rb room cap pol R O) (hn : R.fr.length ≤ 5000) : Calls Try.prog 15 #[.pointer (some ⟨x, 0, none⟩)] w fun a w' => a = .returned (.tuple #[]) ∧ SRec w' x rb room cap pol R.flush (grow O w w') ∧ Only O w w' := by
  obtain ⟨tb, F, L, lo, p, hF, ht⟩ := h.p
  refine (flush_any hpa p (by omega)).mono ?_
  rintro a w1 ⟨rfl, L', lo', rel, p1, on⟩
  refine ⟨rfl, ⟨⟨tb, _, L', lo', p1, ?_, .inl ht⟩, grow_lt h.foot on.size⟩, on.mono fun k _ hk => hF k hk⟩
  rintro k (q | q)
  · exact .inl (hF k q)
  · exact .inr q
end
/-- The two recorders, apart, and apart from the blocks of P. -/
structure S2 (w wr : World) (cap : Nat) (pol : Int) (x rx y ry : Nat) (R T : Rcd) (P : Nat → Prop) : Prop where
  g : ∃ O U, SRec wr x rx 60 cap pol R O ∧ GRec wr y ry 60 T U ∧ (∀ k, O k → ¬ U k) ∧ (∀ k, O k → w.heap.size ≤ k ∧ ¬ P k) ∧ ∀ k, U k → w.heap.size ≤ k ∧ ¬ P k
  hP : ∀ k, P k → k < wr.heap.size
  bel : Below w.heap.size w wr
section
variable {w wr w2 : World} {cap : Nat} {pol : Int} {x rx y ry : Nat} {R T : Rcd} {P : Nat → Prop}
theorem S2.below (h : S2 w wr cap pol x rx y ry R T P) (k : Below wr.heap.size wr w2) : S2 w w2 cap pol x rx y ry R T P := by
  obtain ⟨O, U, g1, g2, h1, h2, h3⟩ := h.g
  exact ⟨⟨O, U, g1.below k, g2.below k, h1, h2, h3⟩, fun i hi => Nat.lt_of_lt_of_le (h.hP i hi) k.size, h.bel.trans (k.mono h.bel.size)⟩
theorem S2.with_block (h : S2 w wr cap pol x rx y ry R T P) (o : Obj) : S2 w (wr.alloc o) cap pol x rx y ry R T (fun k => k = wr.heap.size) := by
  have k := (Below.refl wr.heap.size wr).alloc (Nat.le_refl _) o
  obtain ⟨O, U, g1, g2, h1, h2, h3⟩ := h.g
  exact ⟨⟨O, U, g1.below k, g2.below k, h1, fun i hi => ⟨(h2 i hi).1, fun e => by have := g1.foot i hi; omega⟩, fun i hi => ⟨(h3 i hi).1, fun e => by have := g2.foot i hi; omega⟩⟩, fun i hi => by rw [hi]; simp, h.bel.trans (k.mono h.bel.size)⟩
theorem S2.forget (h : S2 w wr cap pol x rx y ry R T P) : S2 w wr cap pol x rx y ry R T (fun _ => False) := by
  obtain ⟨O, U, g1, g2, h1, h2, h3⟩ := h.g
  exact ⟨⟨O, U, g1, g2, h1, fun i hi => ⟨(h2 i hi).1, fun e => e⟩, fun i hi => ⟨(h3 i hi).1, fun e => e⟩⟩, fun _ hi => hi.elim, h.bel⟩
theorem S2.step1 {R' : Rcd} {O U : Nat → Prop} (hB : Below w.heap.size w wr) (hP : ∀ k, P k → k < wr.heap.size) (hO : ∀ k, O k → w.heap.size ≤ k ∧ ¬ P k) (hU : ∀ k, U k → w.heap.size ≤ k ∧ ¬ P k) (hd : ∀ k, O k → ¬ U k) (g1 : SRec w2 x rx 60 cap pol R' (grow O wr w2)) (g2 : GRec wr y ry 60 T U) (on : Only O wr w2) :
    S2 w w2 cap pol x rx y ry R' T P ∧ ∀ k o, P k → wr.heap[k]? = some o → w2.heap[k]? = some o := by
  refine ⟨⟨⟨_, U, g1, g2.only on fun k a b => hd k b a, ?_, ?_, hU⟩, fun i hi => Nat.lt_of_lt_of_le (hP i hi) on.size, hB.trans (on.below hB.size fun i hi q => by have := (hO i q).1; omega)⟩, fun k o hk ho => on.keeps ho fun q => (hO k q).2 hk⟩
  · rintro k (q | q) b
    · exact hd k q b
    · have := g2.foot k b; omega
  · rintro k (q | q)
    · exact hO k q
    · exact ⟨Nat.le_trans hB.size q.1, fun e => by have := hP k e; omega⟩
theorem S2.step2 {T' : Rcd} {O U : Nat → Prop} (hB : Below w.heap.size w wr) (hP : ∀ k, P k → k < wr.heap.size) (hO : ∀ k, O k → w.heap.size ≤ k ∧ ¬ P k) (hU : ∀ k, U k → w.heap.size ≤ k ∧ ¬ P k) (hd : ∀ k, O k → ¬ U k) (g1 : SRec wr x rx 60 cap pol R O) (g2 : GRec w2 y ry 60 T' (grow U wr w2)) (on : Only U wr w2) :
    S2 w w2 cap pol x rx y ry R T' P ∧ ∀ k o, P k → wr.heap[k]? = some o → w2.heap[k]? = some o := by
  refine ⟨⟨⟨O, _, g1.only on fun k a b => hd k a b, g2, ?_, hO, ?_⟩, fun i hi => Nat.lt_of_lt_of_le (hP i hi) on.size, hB.trans (on.below hB.size fun i hi q => by have := (hU i q).1; omega)⟩, fun k o hk ho => on.keeps ho fun q => (hU k q).2 hk⟩
  · rintro k a (q | q)
    · exact hd k a q
    · have := g1.foot k a; omega
  · rintro k (q | q)
    · exact hU k q
    · exact ⟨Nat.le_trans hB.size q.1, fun e => by have := hP k e; omega⟩
theorem s2put_x (hpa : PutsAs pol) (h : S2 w wr cap pol x rx y ry R T P) (hn : R.cnt ≤ 5000) (e : Ev) (he : e.Wf) : Calls Try.prog 17 #[.pointer (some ⟨x, 0, none⟩), e.val] wr fun a w' => a = .returned (.int .i64 (R.err e)) ∧ S2 w w' cap pol x rx y ry (R.put 60 e) T P ∧ ∀ k o, P k → wr.heap[k]? = some o → w'.heap[k]? = some o := by
  obtain ⟨O, U, g1, g2, h1, h2, h3⟩ := h.g
  refine (srput_any hpa g1 (by have := cnt_le R; omega) e he).mono ?_
  rintro a w1 ⟨rfl, g, on⟩
  exact ⟨rfl, S2.step1 h.bel h.hP h2 h3 h1 g g2 on⟩
theorem s2put_y (h : S2 w wr cap pol x rx y ry R T P) (hn : T.cnt ≤ 5000) (e : Ev) (he : e.Wf) : Calls Try.prog 17 #[.pointer (some ⟨y, 0, none⟩), e.val] wr fun a w' => a = .returned (.int .i64 (T.err e)) ∧ S2 w w' cap pol x rx y ry R (T.put 60 e) P ∧ ∀ k o, P k → wr.heap[k]? = some o → w'.heap[k]? = some o := by
  obtain ⟨O, U, g1, g2, h1, h2, h3⟩ := h.g
  refine (gput_any g2 (by have := cnt_le T; omega) e he).mono ?_
  rintro a w1 ⟨rfl, g, on⟩
  exact ⟨rfl, S2.step2 h.bel h.hP h2 h3 h1 g1 g on⟩
theorem s2flush_x (hpa : PutsAs pol) (h : S2 w wr cap pol x rx y ry R T P) (hn : R.cnt ≤ 5000) : Calls Try.prog 15 #[.pointer (some ⟨x, 0, none⟩)] wr fun a w' => a = .returned (.tuple #[]) ∧ S2 w w' cap pol x rx y ry R.flush T P := by
  obtain ⟨O, U, g1, g2, h1, h2, h3⟩ := h.g
  refine (srflush_any hpa g1 (by have := cnt_le R; omega)).mono ?_
  rintro a w1 ⟨rfl, g, on⟩
  exact ⟨rfl, (S2.step1 h.bel h.hP h2 h3 h1 g g2 on).1⟩
theorem s2flush_y (h : S2 w wr cap pol x rx y ry R T P) (hn : T.cnt ≤ 5000) : Calls Try.prog 15 #[.pointer (some ⟨y, 0, none⟩)] wr fun a w' => a = .returned (.tuple #[]) ∧ S2 w w' cap pol x rx y ry R T.flush P := by
  obtain ⟨O, U, g1, g2, h1, h2, h3⟩ := h.g
  refine (gflush_any g2 (by have := cnt_le T; omega)).mono ?_
  rintro a w1 ⟨rfl, g, on⟩
  exact ⟨rfl, (S2.step2 h.bel h.hP h2 h3 h1 g1 g on).1⟩
theorem s2frames_x (h : S2 w wr cap pol x rx y ry R T P) : Calls Try.prog 19 #[.pointer (some ⟨x, 0, none⟩)] wr fun e w' => e = .returned (.int .i64 R.fr.length) ∧ wr = w' := by
  obtain ⟨O, U, g1, g2, h1, h2, h3⟩ := h.g
  obtain ⟨tb, F, L, lo, p, hF, ht⟩ := g1.p
  exact frames_any p
theorem s2frames_y (h : S2 w wr cap pol x rx y ry R T P) : Calls Try.prog 19 #[.pointer (some ⟨y, 0, none⟩)] wr fun e w' => e = .returned (.int .i64 T.fr.length) ∧ wr = w' := by
  obtain ⟨O, U, g1, g2, h1, h2, h3⟩ := h.g
  exact gframes_any g2
theorem s2open_x (h : S2 w wr cap pol x rx y ry R T P) : Calls Try.prog 20 #[.pointer (some ⟨x, 0, none⟩)] wr fun e w' => e = .returned (.int .i64 R.op.length) ∧ wr = w' := by
  obtain ⟨O, U, g1, g2, h1, h2, h3⟩ := h.g
  obtain ⟨tb, F, L, lo, p, hF, ht⟩ := g1.p
  exact open_any p
theorem s2open_y (h : S2 w wr cap pol x rx y ry R T P) : Calls Try.prog 20 #[.pointer (some ⟨y, 0, none⟩)] wr fun e w' => e = .returned (.int .i64 T.op.length) ∧ wr = w' := by
  obtain ⟨O, U, g1, g2, h1, h2, h3⟩ := h.g
  exact gopen_any g2
end
def SmL (w : World) (cap : Nat) (pol : Int) (x rx y ry len : Nat) (z : Nat → Ev) (g : Nat) (i : Value) (wr : World) : Prop :=
  ∃ k : Nat, i = .int .i64 k ∧ k ≤ len ∧ S2 w wr cap pol x rx y ry (putsR 60 z k) (putsR 60 z k) (fun _ => False) ∧ len - k ≤ g
theorem ev_six {W : World} {o : Nat} {e : Ev} {T : TypeId} (h : W.heap[o]? = some (.cells e.cells.toArray T (0, 0))) : W.cell? ⟨o, 0, none⟩ = some (.int .i64 e.k) ∧ W.cell? ⟨o, 1, none⟩ = some (.int .u64 e.cy) ∧ W.cell? ⟨o, 2, none⟩ = some (.int .u64 e.ct) ∧ W.cell? ⟨o, 3, none⟩ = some (.int .u32 e.a) ∧ W.cell? ⟨o, 4, none⟩ = some (.int .u32 e.b) ∧ W.cell? ⟨o, 5, none⟩ = some (.int .u32 e.v) := by
  refine ⟨?_, ?_, ?_, ?_, ?_, ?_⟩ <;> (rw [cell_blk h]; rfl)
set_option maxHeartbeats 4000000 in
theorem recSmall_main0 (cap : Nat) (hc1 : 179 ≤ cap) (hc2 : cap ≤ 1048576) (oa : Option Addr) (len cp : Nat) (z : Nat → Ev) (w : World) (hs : SlArgN w oa len cp 6 (fun i j => (z i).f j)) (hr : cp * 40 ≤ 140737488351232) (hx : (∀ i, i < len → (z i).Wf) ∧ (oa = none → cp = 0)) :
    Calls Try.prog 4 #[.int .i64 cap, .bool false, .slice oa len cp] w fun e w' => e = .returned (.bool true) ∧ Below w.heap.size w w' := by
  have hpa : PutsAs 0 := putsAs0
  go_enter Try.func4, Try.ntmps4
  go_wp2_with fail
  refine (qnew_any cap 0 (by decide) hc1 hc2 _).mono ?_
  rintro a w1 ⟨rfl, hR, hk1⟩
  have hft : ∀ k, NewFoot w k → w.heap.size ≤ k := by rintro k (rfl | rfl) <;> omega
  go_wp2_with fail
  refine (awake23 _).mono ?_
  rintro a w2 ⟨rfl, hk2⟩
  have hR2 := hR.below hk2
  have hk12 := hk1.trans (hk2.mono hk1.size)
  clear hR hk1 hk2
  by_cases hl : len ≤ 300
  · have hd : decide ((300 : Int) < len) = false := by simp; omega
    go_wp2_with fail
    refine (make_any _).mono ?_
    rintro a w3 ⟨rfl, hT, hk3⟩
    have hR3 := hR2.below hk3
    have hk13 := hk12.trans (hk3.mono hk12.size)
    have hnew := rcnew_any hT hR3 (fun q => by have := hR2.foot _ q; omega) (by decide) 60 (by decide) (by decide)
    have hR2f := hR2.foot
    clear hR2 hk3
    go_wp2_with fail
    refine hnew.mono ?_
    rintro a w4 ⟨rfl, hP, hk4⟩
    have hst : SRec w4 w3.heap.size (w.heap.size + 1) 60 cap 0 rcd0 (fun k => w.heap.size ≤ k ∧ k < w4.heap.size) := by
      have s1 := hk12.size
      have s3 := hk13.size
      have s4 := hk4.size
      have htl := blk_lt hT.choose_spec.1
      refine ⟨⟨_, _, _, _, hP, ?_, ?_⟩, fun k q => q.2⟩
      · rintro k (q | q)
        · have := hft k q
          have := hR2f k q
          constructor
          · exact hft k q
          · omega
        · constructor <;> omega
      · constructor <;> omega
    have hk14 := hk13.trans (hk4.mono hk13.size)
    clear hP hnew hT hR3 hk4 hk13 hk12 hft hR2f
    generalize w3.heap.size = x at *
    go_wp2_with fail
    refine (fresh_any 60 (by decide) (by decide) _).mono ?_
    rintro a w5 ⟨y, ry, U, rfl, g2, hU, hk5⟩
    have st : S2 w w5 cap 0 x (w.heap.size + 1) y ry rcd0 rcd0 (fun _ => False) := ⟨⟨_, U, hst.below hk5, g2, fun k a b => by have := hU k b; omega, fun k hk => ⟨hk.1, fun e => e⟩, fun k hk => ⟨Nat.le_trans hk14.size (hU k hk), fun e => e⟩⟩, fun _ hi => hi.elim, hk14.trans (hk5.mono hk14.size)⟩
    clear hst g2 hU hk5 hk14
    go_wp2_with fail
    clear hd
    go_loopg [47] (len) (fun g i wr => SmL w cap 0 x (w.heap.size + 1) y ry len z g i wr)
    case atStart => exact ⟨0, rfl, Nat.zero_le _, st, by omega⟩
    case round =>
      clear st
      obtain ⟨k, rfl, hk, st, hg⟩ := hrel
      by_cases hlt : k < len
      · have hlt' : (k : Int) < len := by omega
        have hs1 := hs.kept st.bel
        obtain ⟨b, off, hoa, hbl, hc⟩ := hs1.2.2 k hlt
        obtain ⟨e, hee⟩ : ∃ e, e = z k := ⟨_, rfl⟩
        have c0 := hc 0 (by decide)
        have c1 := hc 1 (by decide)
        have c2 := hc 2 (by decide)
        have c3 := hc 3 (by decide)
        have c4 := hc 4 (by decide)
        have c5 := hc 5 (by decide)
        dsimp only [Ev.f, Nat.add_zero] at c0 c1 c2 c3 c4 c5
        rw [← hee] at c0 c1 c2 c3 c4 c5
        subst hoa
        have hw : e.Wf := by rw [hee]; exact hx.1 k hlt
        have hpn : putsR 60 z (k + 1) = (putsR 60 z k).put 60 e := by rw [hee]; rfl
        have hcn := puts_cnt 60 z k
        have HE := Lib.hid (And.intro hee hpn)
        have st1 := st.with_block (.cells #[.int .i64 e.k, .int .u64 e.cy, .int .u64 e.ct, .int .u32 e.a, .int .u32 e.b, .int .u32 e.v] 25)
        have hblk := heap_alloc_new wr (.cells #[.int .i64 e.k, .int .u64 e.cy, .int .u64 e.ct, .int .u32 e.a, .int .u32 e.b, .int .u32 e.v] 25)
        clear hee hpn hc hs1 st
        go_upto_region 12 with fail
        obtain ⟨o, ho⟩ : ∃ o, o = wr.heap.size := ⟨_, rfl⟩
        try rw [← ho] at st1 hblk ⊢
        clear ho c0 c1 c2 c3 c4 c5
        generalize wr.alloc (.cells #[.int .i64 e.k, .int .u64 e.cy, .int .u64 e.ct, .int .u32 e.a, .int .u32 e.b, .int .u32 e.v] 25) = w6 at *
        have H := ev_six (e := e) hblk
        have hput1 := s2put_x hpa (st1.below (Below.refl w6.heap.size w6).drew) (by omega) e hw
        have hblkd : w6.drew.heap[o]? = _ := hblk
        obtain ⟨E, hE⟩ : ∃ E, E = (putsR 60 z k).err e := ⟨_, rfl⟩
        rw [← hE] at hput1
        unfold Ev.val at hput1
        obtain ⟨R1, hR1⟩ : ∃ R1, R1 = (putsR 60 z k).put 60 e := ⟨_, rfl⟩
        rw [← hR1] at hput1
        have HR := Lib.hid hR1
        have hnn : (E != E) = false := by simp
        go_region_held3 (fun w' => w'.cell? ⟨o, 0, none⟩ = some (.int .i64 e.k) ∧ w'.cell? ⟨o, 1, none⟩ = some (.int .u64 e.cy) ∧ w'.cell? ⟨o, 2, none⟩ = some (.int .u64 e.ct) ∧ w'.cell? ⟨o, 3, none⟩ = some (.int .u32 e.a) ∧ w'.cell? ⟨o, 4, none⟩ = some (.int .u32 e.b) ∧ w'.cell? ⟨o, 5, none⟩ = some (.int .u32 e.v)) (first | exact H | exact H6 | exact H7) (first | (go_at_call 17; (with_reducible refine hput1.mono ?_); rintro a w7 ⟨rfl, st7, hkeep⟩; have hblk7 := hkeep o _ rfl hblkd; have H6 := ev_six (e := e) hblk7; clear hput1 hkeep; have hput2 := s2put_y st7 (by omega) e hw; rw [← hE, ← hR1] at hput2; unfold Ev.val at hput2) | (go_at_call 17; (with_reducible refine hput2.mono ?_); rintro a w8 ⟨rfl, st8, hkeep⟩; have hblk8 := hkeep o _ rfl hblk7; have H7 := ev_six (e := e) hblk8; clear hput2 hkeep; have hf1 := s2frames_x st8; have hf2 := s2frames_y st8; have ho1 := s2open_x st8; have ho2 := s2open_y st8) | (go_at_call 19; (with_reducible refine hf1.mono ?_); rintro a w9 ⟨rfl, rfl⟩) | (go_at_call 19; (with_reducible refine hf2.mono ?_); rintro a w9 ⟨rfl, rfl⟩) | (go_at_call 20; (with_reducible refine ho1.mono ?_); rintro a w9 ⟨rfl, rfl⟩) | (go_at_call 20; (with_reducible refine ho2.mono ?_); rintro a w9 ⟨rfl, rfl⟩))
        all_goals
          go_wp2_with fail
          obtain ⟨gg, rfl⟩ : ∃ gg, gk = gg + 1 := ⟨gk - 1, by omega⟩
          go_roundg gg
          case measure => omega
          case rel => exact ⟨k + 1, by go_num, by omega, by rw [HE.out.2, ← HR.out]; exact st8.forget, by omega⟩
      · have hlt' : ¬ (k : Int) < len := by omega
        obtain rfl : k = len := by omega
        have hcn := puts_cnt 60 z k
        obtain ⟨R1, hR1⟩ : ∃ R1, R1 = putsR 60 z k := ⟨_, rfl⟩
        rw [← hR1] at st hcn
        have hfl := s2flush_x hpa st (by omega)
        go_upto_region 16 with ((go_at_call 15; (with_reducible refine hfl.mono ?_); rintro a w6 ⟨rfl, st6⟩))
        have hfl2 := s2flush_y st6 (by omega)
        clear hfl st
        go_upto_region 17 with ((go_at_call 15; (with_reducible refine hfl2.mono ?_); rintro a w7 ⟨rfl, st7⟩))
        clear st6 hfl2
        have hf1 := s2frames_x st7
        have hf2 := s2frames_y st7
        obtain ⟨O, U, g1, g2, h1, h2, h3⟩ := st7.g
        obtain ⟨tb, F, L, lo, p, _, _⟩ := g1.p
        obtain ⟨FR, rr, _, hcnt⟩ := p.ringP
        have hh := qheld_any rr
        have hlst := qlost_any rr
        have hbig := gheld_any g2
        have hbel := st7.bel
        have hcn2 : R1.flush.fr.length ≤ 300 := by have := cnt_le R1.flush; rw [cnt_flush] at this; omega
        obtain ⟨N, hN⟩ : ∃ N, N = R1.flush.fr.length := ⟨_, rfl⟩
        rw [← hN] at hf1 hf2 hbig hcnt hcn2
        obtain ⟨M, hM⟩ : ∃ M, M = L.length := ⟨_, rfl⟩
        rw [← hM] at hh hcnt
        have u1 : IntKind.u64.wrap (M : Int) = M := by rw [IntKind.wrap_u64]; omega
        have u2 : IntKind.u64.wrap (N : Int) = N := by rw [IntKind.wrap_u64]; omega
        have u3 : IntKind.u64.wrap ((M : Int) + lo) = N := by rw [IntKind.wrap_u64]; omega
        clear g1 g2 h1 h2 h3 p rr st7 hN hM
        go_wp2_with (first | (go_at_call 19; (with_reducible refine hf1.mono ?_); rintro a w9 ⟨rfl, rfl⟩) | (go_at_call 19; (with_reducible refine hf2.mono ?_); rintro a w9 ⟨rfl, rfl⟩) | (go_at_call 22; (with_reducible refine hh.mono ?_); rintro a w9 ⟨rfl, rfl⟩) | (go_at_call 23; (with_reducible refine hlst.mono ?_); rintro a w9 ⟨rfl, rfl⟩) | (go_at_call 22; (with_reducible refine hbig.mono ?_); rintro a w9 ⟨rfl, rfl⟩))
        go_ret
        exact ⟨by simp, hbel⟩
  · have hd : decide ((300 : Int) < len) = true := by simp; omega
    go_wp2_with fail
    refine (awake23 _).mono ?_
    rintro a w4 ⟨rfl, hk4⟩
    go_wp2_with fail
    go_ret
    exact ⟨rfl, hk12.trans (hk4.mono hk12.size)⟩
set_option maxHeartbeats 4000000 in
theorem recSmall_main1 (cap : Nat) (hc1 : 179 ≤ cap) (hc2 : cap ≤ 1048576) (oa : Option Addr) (len cp : Nat) (z : Nat → Ev) (w : World) (hs : SlArgN w oa len cp 6 (fun i j => (z i).f j)) (hr : cp * 40 ≤ 140737488351232) (hx : (∀ i, i < len → (z i).Wf) ∧ (oa = none → cp = 0)) :
    Calls Try.prog 4 #[.int .i64 cap, .bool true, .slice oa len cp] w fun e w' => e = .returned (.bool true) ∧ Below w.heap.size w w' := by
  have hpa : PutsAs 1 := putsAs1
  go_enter Try.func4, Try.ntmps4
  go_wp2_with fail
  refine (qnew_any cap 1 (by decide) hc1 hc2 _).mono ?_
  rintro a w1 ⟨rfl, hR, hk1⟩
  have hft : ∀ k, NewFoot w k → w.heap.size ≤ k := by rintro k (rfl | rfl) <;> omega
  go_wp2_with fail
  refine (awake23 _).mono ?_
  rintro a w2 ⟨rfl, hk2⟩
  have hR2 := hR.below hk2
  have hk12 := hk1.trans (hk2.mono hk1.size)
  clear hR hk1 hk2
  by_cases hl : len ≤ 300
  · have hd : decide ((300 : Int) < len) = false := by simp; omega
    go_wp2_with fail
    refine (make_any _).mono ?_
    rintro a w3 ⟨rfl, hT, hk3⟩
    have hR3 := hR2.below hk3
    have hk13 := hk12.trans (hk3.mono hk12.size)
    have hnew := rcnew_any hT hR3 (fun q => by have := hR2.foot _ q; omega) (by decide) 60 (by decide) (by decide)
    have hR2f := hR2.foot
    clear hR2 hk3
    go_wp2_with fail
    refine hnew.mono ?_
    rintro a w4 ⟨rfl, hP, hk4⟩
    have hst : SRec w4 w3.heap.size (w.heap.size + 1) 60 cap 1 rcd0 (fun k => w.heap.size ≤ k ∧ k < w4.heap.size) := by
      have s1 := hk12.size
      have s3 := hk13.size
      have s4 := hk4.size
      have htl := blk_lt hT.choose_spec.1
      refine ⟨⟨_, _, _, _, hP, ?_, ?_⟩, fun k q => q.2⟩
      · rintro k (q | q)
        · have := hft k q
          have := hR2f k q
          constructor
          · exact hft k q
          · omega
        · constructor <;> omega
      · constructor <;> omega
    have hk14 := hk13.trans (hk4.mono hk13.size)
    clear hP hnew hT hR3 hk4 hk13 hk12 hft hR2f
    generalize w3.heap.size = x at *
    go_wp2_with fail
    refine (fresh_any 60 (by decide) (by decide) _).mono ?_
    rintro a w5 ⟨y, ry, U, rfl, g2, hU, hk5⟩
    have st : S2 w w5 cap 1 x (w.heap.size + 1) y ry rcd0 rcd0 (fun _ => False) := ⟨⟨_, U, hst.below hk5, g2, fun k a b => by have := hU k b; omega, fun k hk => ⟨hk.1, fun e => e⟩, fun k hk => ⟨Nat.le_trans hk14.size (hU k hk), fun e => e⟩⟩, fun _ hi => hi.elim, hk14.trans (hk5.mono hk14.size)⟩
    clear hst g2 hU hk5 hk14
    go_wp2_with fail
    clear hd
    go_loopg [47] (len) (fun g i wr => SmL w cap 1 x (w.heap.size + 1) y ry len z g i wr)
    case atStart => exact ⟨0, rfl, Nat.zero_le _, st, by omega⟩
    case round =>
      clear st
      obtain ⟨k, rfl, hk, st, hg⟩ := hrel
      by_cases hlt : k < len
      · have hlt' : (k : Int) < len := by omega
        have hs1 := hs.kept st.bel
        obtain ⟨b, off, hoa, hbl, hc⟩ := hs1.2.2 k hlt
        obtain ⟨e, hee⟩ : ∃ e, e = z k := ⟨_, rfl⟩
        have c0 := hc 0 (by decide)
        have c1 := hc 1 (by decide)
        have c2 := hc 2 (by decide)
        have c3 := hc 3 (by decide)
        have c4 := hc 4 (by decide)
        have c5 := hc 5 (by decide)
        dsimp only [Ev.f, Nat.add_zero] at c0 c1 c2 c3 c4 c5
        rw [← hee] at c0 c1 c2 c3 c4 c5
        subst hoa
        have hw : e.Wf := by rw [hee]; exact hx.1 k hlt
        have hpn : putsR 60 z (k + 1) = (putsR 60 z k).put 60 e := by rw [hee]; rfl
        have hcn := puts_cnt 60 z k
        have HE := Lib.hid (And.intro hee hpn)
        have st1 := st.with_block (.cells #[.int .i64 e.k, .int .u64 e.cy, .int .u64 e.ct, .int .u32 e.a, .int .u32 e.b, .int .u32 e.v] 25)
        have hblk := heap_alloc_new wr (.cells #[.int .i64 e.k, .int .u64 e.cy, .int .u64 e.ct, .int .u32 e.a, .int .u32 e.b, .int .u32 e.v] 25)
        clear hee hpn hc hs1 st
        go_upto_region 12 with fail
        obtain ⟨o, ho⟩ : ∃ o, o = wr.heap.size := ⟨_, rfl⟩
        try rw [← ho] at st1 hblk ⊢
        clear ho c0 c1 c2 c3 c4 c5
        generalize wr.alloc (.cells #[.int .i64 e.k, .int .u64 e.cy, .int .u64 e.ct, .int .u32 e.a, .int .u32 e.b, .int .u32 e.v] 25) = w6 at *
        have H := ev_six (e := e) hblk
        have hput1 := s2put_x hpa (st1.below (Below.refl w6.heap.size w6).drew) (by omega) e hw
        have hblkd : w6.drew.heap[o]? = _ := hblk
        obtain ⟨E, hE⟩ : ∃ E, E = (putsR 60 z k).err e := ⟨_, rfl⟩
        rw [← hE] at hput1
        unfold Ev.val at hput1
        obtain ⟨R1, hR1⟩ : ∃ R1, R1 = (putsR 60 z k).put 60 e := ⟨_, rfl⟩
        rw [← hR1] at hput1
        have HR := Lib.hid hR1
        have hnn : (E != E) = false := by simp
        go_region_held3 (fun w' => w'.cell? ⟨o, 0, none⟩ = some (.int .i64 e.k) ∧ w'.cell? ⟨o, 1, none⟩ = some (.int .u64 e.cy) ∧ w'.cell? ⟨o, 2, none⟩ = some (.int .u64 e.ct) ∧ w'.cell? ⟨o, 3, none⟩ = some (.int .u32 e.a) ∧ w'.cell? ⟨o, 4, none⟩ = some (.int .u32 e.b) ∧ w'.cell? ⟨o, 5, none⟩ = some (.int .u32 e.v)) (first | exact H | exact H6 | exact H7) (first | (go_at_call 17; (with_reducible refine hput1.mono ?_); rintro a w7 ⟨rfl, st7, hkeep⟩; have hblk7 := hkeep o _ rfl hblkd; have H6 := ev_six (e := e) hblk7; clear hput1 hkeep; have hput2 := s2put_y st7 (by omega) e hw; rw [← hE, ← hR1] at hput2; unfold Ev.val at hput2) | (go_at_call 17; (with_reducible refine hput2.mono ?_); rintro a w8 ⟨rfl, st8, hkeep⟩; have hblk8 := hkeep o _ rfl hblk7; have H7 := ev_six (e := e) hblk8; clear hput2 hkeep; have hf1 := s2frames_x st8; have hf2 := s2frames_y st8; have ho1 := s2open_x st8; have ho2 := s2open_y st8) | (go_at_call 19; (with_reducible refine hf1.mono ?_); rintro a w9 ⟨rfl, rfl⟩) | (go_at_call 19; (with_reducible refine hf2.mono ?_); rintro a w9 ⟨rfl, rfl⟩) | (go_at_call 20; (with_reducible refine ho1.mono ?_); rintro a w9 ⟨rfl, rfl⟩) | (go_at_call 20; (with_reducible refine ho2.mono ?_); rintro a w9 ⟨rfl, rfl⟩))
        all_goals
          go_wp2_with fail
          obtain ⟨gg, rfl⟩ : ∃ gg, gk = gg + 1 := ⟨gk - 1, by omega⟩
          go_roundg gg
          case measure => omega
          case rel => exact ⟨k + 1, by go_num, by omega, by rw [HE.out.2, ← HR.out]; exact st8.forget, by omega⟩
      · have hlt' : ¬ (k : Int) < len := by omega
        obtain rfl : k = len := by omega
        have hcn := puts_cnt 60 z k
        obtain ⟨R1, hR1⟩ : ∃ R1, R1 = putsR 60 z k := ⟨_, rfl⟩
        rw [← hR1] at st hcn
        have hfl := s2flush_x hpa st (by omega)
        go_upto_region 16 with ((go_at_call 15; (with_reducible refine hfl.mono ?_); rintro a w6 ⟨rfl, st6⟩))
        have hfl2 := s2flush_y st6 (by omega)
        clear hfl st
        go_upto_region 17 with ((go_at_call 15; (with_reducible refine hfl2.mono ?_); rintro a w7 ⟨rfl, st7⟩))
        clear st6 hfl2
        have hf1 := s2frames_x st7
        have hf2 := s2frames_y st7
        obtain ⟨O, U, g1, g2, h1, h2, h3⟩ := st7.g
        obtain ⟨tb, F, L, lo, p, _, _⟩ := g1.p
        obtain ⟨FR, rr, _, hcnt⟩ := p.ringP
        have hh := qheld_any rr
        have hlst := qlost_any rr
        have hbig := gheld_any g2
        have hbel := st7.bel
        have hcn2 : R1.flush.fr.length ≤ 300 := by have := cnt_le R1.flush; rw [cnt_flush] at this; omega
        obtain ⟨N, hN⟩ : ∃ N, N = R1.flush.fr.length := ⟨_, rfl⟩
        rw [← hN] at hf1 hf2 hbig hcnt hcn2
        obtain ⟨M, hM⟩ : ∃ M, M = L.length := ⟨_, rfl⟩
        rw [← hM] at hh hcnt
        have u1 : IntKind.u64.wrap (M : Int) = M := by rw [IntKind.wrap_u64]; omega
        have u2 : IntKind.u64.wrap (N : Int) = N := by rw [IntKind.wrap_u64]; omega
        have u3 : IntKind.u64.wrap ((M : Int) + lo) = N := by rw [IntKind.wrap_u64]; omega
        clear g1 g2 h1 h2 h3 p rr st7 hN hM
        go_wp2_with (first | (go_at_call 19; (with_reducible refine hf1.mono ?_); rintro a w9 ⟨rfl, rfl⟩) | (go_at_call 19; (with_reducible refine hf2.mono ?_); rintro a w9 ⟨rfl, rfl⟩) | (go_at_call 22; (with_reducible refine hh.mono ?_); rintro a w9 ⟨rfl, rfl⟩) | (go_at_call 23; (with_reducible refine hlst.mono ?_); rintro a w9 ⟨rfl, rfl⟩) | (go_at_call 22; (with_reducible refine hbig.mono ?_); rintro a w9 ⟨rfl, rfl⟩))
        go_ret
        exact ⟨by simp, hbel⟩
  · have hd : decide ((300 : Int) < len) = true := by simp; omega
    go_wp2_with fail
    refine (awake23 _).mono ?_
    rintro a w4 ⟨rfl, hk4⟩
    go_wp2_with fail
    go_ret
    exact ⟨rfl, hk12.trans (hk4.mono hk12.size)⟩
theorem qnew_bad (n : Int) (p : Int) (h : n < 179 ∨ 1048576 < n) (w : World) : Calls Try.prog 12 #[.int .i64 n, .int .i64 p] w fun x w' => x = .returned (.tuple #[.pointer none, .int .i64 1]) ∧ w = w' := by
  by_cases h1 : n < 179
  · go_enter Try.func12, Try.ntmps12
    go_wp2_with fail
    go_ret2
    exact ⟨rfl, rfl⟩
  · have h2 : (1048576 : Int) < n := by omega
    go_enter Try.func12, Try.ntmps12
    go_wp2_with fail
    go_ret2
    exact ⟨rfl, rfl⟩
theorem recSmall_law (n0 : Int) (bo : Bool) (oa : Option Addr) (len cp : Nat) (z : Nat → Ev) (w : World) (_h0 : (Lit.int .i64 n0).wf = true) (hs : SlArgN w oa len cp 6 (fun i j => (z i).f j)) (hr : cp * 40 ≤ 140737488351232) (hx : (∀ i, i < len → (z i).Wf) ∧ (oa = none → cp = 0)) :
    Calls Try.prog 4 #[.int .i64 n0, .bool bo, .slice oa len cp] w fun e w' => e = .returned (.bool true) ∧ Below w.heap.size w w' := by
  by_cases hb : n0 < 179 ∨ 1048576 < n0
  · go_enter Try.func4, Try.ntmps4
    cases bo
    all_goals
      go_wp2_with fail
      refine (qnew_bad n0 _ hb _).mono ?_
      rintro a w1 ⟨rfl, rfl⟩
      go_wp2_with fail
      refine (awake23 _).mono ?_
      rintro a w2 ⟨rfl, hk2⟩
      go_wp2_with fail
      refine (awake23 _).mono ?_
      rintro a w3 ⟨rfl, hk3⟩
      go_wp2_with fail
      go_ret
      exact ⟨rfl, hk2.trans (hk3.mono hk2.size)⟩
  · obtain ⟨cap, rfl⟩ : ∃ cap : Nat, n0 = cap := ⟨n0.toNat, by omega⟩
    cases bo
    · exact recSmall_main0 cap (by omega) (by omega) oa len cp z w hs hr hx
    · exact recSmall_main1 cap (by omega) (by omega) oa len cp z w hs hr hx
end Go.Proofs.Ytbfipgeoecbpaaa
