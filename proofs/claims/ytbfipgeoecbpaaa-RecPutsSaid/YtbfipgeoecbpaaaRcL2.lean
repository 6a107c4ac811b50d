/- Two recorders into great rings; the walk of the statement of layer 23: RecRefuses. -/
import Derived.Test.YtbfipgeoecbpaaaRcA
import Derived.Test.YtbfipgeoecbpaaaRcS
namespace Go.Proofs.Ytbfipgeoecbpaaa
open Go.RowKit
set_option linter.unusedVariables false
set_option linter.unusedSimpArgs false
set_option maxRecDepth 20000
/-- Two recorders into great rings, apart, and apart from the blocks of P. -/
structure G2 (w wr : World) (room x rx y ry : Nat) (R T : Rcd) (P : Nat → Prop) : Prop where
  g : ∃ O U, GRec wr x rx room R O ∧ GRec wr y ry room T U ∧ (∀ k, O k → ¬ U k) ∧ (∀ k, O k → w.heap.size ≤ k ∧ ¬ P k) ∧ ∀ k, U k → w.heap.size ≤ k ∧ ¬ P k
  hP : ∀ k, P k → k < wr.heap.size
  bel : Below w.heap.size w wr
section
variable {w wr w2 : World} {room x rx y ry : Nat} {R T : Rcd} {P : Nat → Prop}
theorem G2.below (h : G2 w wr room x rx y ry R T P) (k : Below wr.heap.size wr w2) : G2 w w2 room x rx y ry R T P := by
  obtain ⟨O, U, g1, g2, h1, h2, h3⟩ := h.g
  exact ⟨⟨O, U, g1.below k, g2.below k, h1, h2, h3⟩, fun i hi => Nat.lt_of_lt_of_le (h.hP i hi) k.size, h.bel.trans (k.mono h.bel.size)⟩
theorem G2.with_block (h : G2 w wr room x rx y ry R T P) (o : Obj) : G2 w (wr.alloc o) room x rx y ry R T (fun k => k = wr.heap.size) := by
  have k := (Below.refl wr.heap.size wr).alloc (Nat.le_refl _) o
  obtain ⟨O, U, g1, g2, h1, h2, h3⟩ := h.g
  exact ⟨⟨O, U, g1.below k, g2.below k, h1, fun i hi => ⟨(h2 i hi).1, fun e => by have := g1.foot i hi; omega⟩, fun i hi => ⟨(h3 i hi).1, fun e => by have := g2.foot i hi; omega⟩⟩, fun i hi => by rw [hi]; simp, h.bel.trans (k.mono h.bel.size)⟩
theorem G2.forget (h : G2 w wr room x rx y ry R T P) : G2 w wr room x rx y ry R T (fun _ => False) := by
  obtain ⟨O, U, g1, g2, h1, h2, h3⟩ := h.g
  exact ⟨⟨O, U, g1, g2, h1, fun i hi => ⟨(h2 i hi).1, fun e => e⟩, fun i hi => ⟨(h3 i hi).1, fun e => e⟩⟩, fun _ hi => hi.elim, h.bel⟩
theorem G2.swap (h : G2 w wr room x rx y ry R T P) : G2 w wr room y ry x rx T R P := by
  obtain ⟨O, U, g1, g2, h1, h2, h3⟩ := h.g
  exact ⟨⟨U, O, g2, g1, fun k a b => h1 k b a, h3, h2⟩, h.hP, h.bel⟩
theorem G2.fst (h : G2 w wr room x rx y ry R T P) : GSt w wr x rx room R := by
  obtain ⟨O, U, g1, g2, h1, h2, h3⟩ := h.g
  exact ⟨⟨O, g1, fun k hk => (h2 k hk).1⟩, h.bel⟩
theorem G2.step {R' : Rcd} {O U : Nat → Prop} (hB : Below w.heap.size w wr) (hP : ∀ k, P k → k < wr.heap.size) (hO : ∀ k, O k → w.heap.size ≤ k ∧ ¬ P k) (hU : ∀ k, U k → w.heap.size ≤ k ∧ ¬ P k) (hd : ∀ k, O k → ¬ U k) (g1 : GRec w2 x rx room R' (grow O wr w2)) (g2 : GRec wr y ry room T U) (on : Only O wr w2) :
    G2 w w2 room x rx y ry R' T P ∧ ∀ k o, P k → wr.heap[k]? = some o → w2.heap[k]? = some o := by
  refine ⟨⟨⟨_, U, g1, g2.only on fun k a b => hd k b a, ?_, ?_, hU⟩, fun i hi => Nat.lt_of_lt_of_le (hP i hi) on.size, hB.trans (on.below hB.size fun i hi q => by have := (hO i q).1; omega)⟩, fun k o hk ho => on.keeps ho fun q => (hO k q).2 hk⟩
  · rintro k (q | q) b
    · exact hd k q b
    · have := g2.foot k b; omega
  · rintro k (q | q)
    · exact hO k q
    · exact ⟨Nat.le_trans hB.size q.1, fun e => by have := hP k e; omega⟩
theorem tput_any (h : G2 w wr room x rx y ry R T P) (hn : R.cnt ≤ 5000) (e : Ev) (he : e.Wf) : Calls Try.prog 17 #[.pointer (some ⟨x, 0, none⟩), e.val] wr fun a w' => a = .returned (.int .i64 (R.err e)) ∧ G2 w w' room x rx y ry (R.put room e) T P ∧ ∀ k o, P k → wr.heap[k]? = some o → w'.heap[k]? = some o := by
  obtain ⟨O, U, g1, g2, h1, h2, h3⟩ := h.g
  refine (gput_any g1 (by have := cnt_le R; omega) e he).mono ?_
  rintro a w1 ⟨rfl, g, on⟩
  exact ⟨rfl, G2.step h.bel h.hP h2 h3 h1 g g2 on⟩
theorem tflush_any (h : G2 w wr room x rx y ry R T P) (hn : R.cnt ≤ 5000) : Calls Try.prog 15 #[.pointer (some ⟨x, 0, none⟩)] wr fun a w' => a = .returned (.tuple #[]) ∧ G2 w w' room x rx y ry R.flush T P := by
  obtain ⟨O, U, g1, g2, h1, h2, h3⟩ := h.g
  refine (gflush_any g1 (by have := cnt_le R; omega)).mono ?_
  rintro a w1 ⟨rfl, g, on⟩
  exact ⟨rfl, (G2.step h.bel h.hP h2 h3 h1 g g2 on).1⟩
theorem fresh_two (room : Nat) (h1 : 20 ≤ room) (h2 : room ≤ 120) {x rx : Nat} {R : Rcd} (h : GSt w wr x rx room R) : Calls Try.prog 21 #[.int .i64 room] wr fun a w' => ∃ y ry, a = .returned (.tuple #[.pointer (some ⟨y, 0, none⟩), .pointer (some ⟨ry, 0, none⟩)]) ∧ G2 w w' room x rx y ry R rcd0 (fun _ => False) := by
  obtain ⟨O, g, hO⟩ := h.g
  refine (fresh_any room h1 h2 wr).mono ?_
  rintro a w1 ⟨y, ry, U, rfl, g2, hU, hk⟩
  exact ⟨y, ry, rfl, ⟨⟨O, U, g.below hk, g2, fun k a b => by have := g.foot k a; have := hU k b; omega, fun k hk => ⟨hO k hk, fun e => e⟩, fun k hk => ⟨Nat.le_trans h.bel.size (hU k hk), fun e => e⟩⟩, fun _ hi => hi.elim, h.bel.trans (hk.mono h.bel.size)⟩⟩
end
/-- A recorder behind some events. -/
def putsR (room : Nat) (z : Nat → Ev) : Nat → Rcd
  | 0 => rcd0
  | n + 1 => (putsR room z n).put room (z n)
theorem puts_cnt (room : Nat) (z : Nat → Ev) : ∀ n, (putsR room z n).cnt ≤ n
  | 0 => Nat.le_refl _
  | n + 1 => by
    have := puts_cnt room z n
    have := cnt_put room (putsR room z n) (z n)
    show ((putsR room z n).put room (z n)).cnt ≤ _
    omega
theorem put_bad {room : Nat} {R : Rcd} {e : Ev} (h : R.err e ≠ 0) : R.put room e = R := if_pos h
def RfL (w : World) (room x rx y ry len : Nat) (z : Nat → Ev) (g : Nat) (i : Value) (wr : World) : Prop :=
  ∃ k : Nat, i = .int .i64 k ∧ k ≤ len ∧ G2 w wr room x rx y ry (putsR room z k) (putsR room z k) (fun _ => False) ∧ len - k ≤ g
set_option maxHeartbeats 4000000 in
theorem recRefuses_law (room0 : Int) (oa : Option Addr) (len cap : Nat) (z : Nat → Ev) (w : World) (_hr0 : (Lit.int .i64 room0).wf = true) (hs : SlArgN w oa len cap 6 (fun i j => (z i).f j)) (hr : cap * 40 ≤ 140737488351232) (hx : (∀ i, i < len → (z i).Wf) ∧ (oa = none → cap = 0)) :
    Calls Try.prog 6 #[.int .i64 room0, .slice oa len cap] w fun e w' => e = .returned (.bool true) ∧ Below w.heap.size w w' := by
  by_cases hb : room0 < 20 ∨ 120 < room0
  · go_enter Try.func6, Try.ntmps6
    go_wp2_with fail
    refine (fresh_bad _ hb _).mono ?_
    rintro a w1 ⟨rb, rfl, hk1⟩
    go_wp2_with fail
    refine (fresh_bad _ hb _).mono ?_
    rintro a w2 ⟨rb2, rfl, hk2⟩
    go_wp2_with fail
    refine (awake23 _).mono ?_
    rintro a w3 ⟨rfl, hk3⟩
    go_wp2_with fail
    refine (awake23 _).mono ?_
    rintro a w4 ⟨rfl, hk4⟩
    go_wp2_with fail
    go_ret
    have b1 := hk1.trans (hk2.mono hk1.size)
    have b2 := b1.trans (hk3.mono b1.size)
    exact ⟨rfl, b2.trans (hk4.mono b2.size)⟩
  · obtain ⟨room, rfl⟩ : ∃ room : Nat, room0 = room := ⟨room0.toNat, by omega⟩
    have r1 : 20 ≤ room := by omega
    have r2 : room ≤ 120 := by omega
    clear hb
    have hB := Below.refl w.heap.size w
    go_enter Try.func6, Try.ntmps6
    go_wp2_with fail
    refine (fresh_st room r1 r2 _).mono ?_
    rintro a w1 ⟨x, rx, rfl, st⟩
    go_wp2_with fail
    refine (fresh_two room r1 r2 st).mono ?_
    rintro a w2 ⟨y, ry, rfl, st2⟩
    clear st
    go_wp2_with fail
    refine (awake23 _).mono ?_
    rintro a w3 ⟨rfl, hk3⟩
    have st := st2.below hk3
    clear st2 hk3
    by_cases hl : len ≤ 300
    · have hd : decide ((300 : Int) < len) = false := by simp; omega
      go_wp2_with fail
      clear hd
      go_loopg [39] (len) (fun g i wr => RfL w room x rx y ry len z g i wr)
      case atStart => exact ⟨0, rfl, Nat.zero_le _, st, by omega⟩
      case round =>
        clear st
        obtain ⟨k, rfl, hk, st, hg⟩ := hrel
        by_cases hlt : k < len
        · have hlt' : (k : Int) < len := by omega
          have hs1 := hs.kept st.bel
          obtain ⟨b, off, hoa, hbl, hc⟩ := hs1.2.2 k hlt
          obtain ⟨e, hee⟩ : ∃ e, e = z k := ⟨_, rfl⟩
          have c0 := hc 0 (by decide)
          have c1 := hc 1 (by decide)
          have c2 := hc 2 (by decide)
          have c3 := hc 3 (by decide)
          have c4 := hc 4 (by decide)
          have c5 := hc 5 (by decide)
          dsimp only [Ev.f, Nat.add_zero] at c0 c1 c2 c3 c4 c5
          rw [← hee] at c0 c1 c2 c3 c4 c5
          subst hoa
          have hw : e.Wf := by rw [hee]; exact hx.1 k hlt
          have hpn : putsR room z (k + 1) = (putsR room z k).put room e := by rw [hee]; rfl
          have hcn := puts_cnt room z k
          have HE := Lib.hid (And.intro hee hpn)
          have st1 := st.with_block (.cells #[.int .i64 e.k, .int .u64 e.cy, .int .u64 e.ct, .int .u32 e.a, .int .u32 e.b, .int .u32 e.v] 25)
          have hblk := heap_alloc_new wr (.cells #[.int .i64 e.k, .int .u64 e.cy, .int .u64 e.ct, .int .u32 e.a, .int .u32 e.b, .int .u32 e.v] 25)
          clear hee hpn hc hs1 st
          go_upto_region 8 with fail
          obtain ⟨o, ho⟩ : ∃ o, o = wr.heap.size := ⟨_, rfl⟩
          try rw [← ho] at st1 hblk ⊢
          clear ho c0 c1 c2 c3 c4 c5
          generalize wr.alloc (.cells #[.int .i64 e.k, .int .u64 e.cy, .int .u64 e.ct, .int .u32 e.a, .int .u32 e.b, .int .u32 e.v] 25) = w5 at *
          obtain ⟨c0, c1, c2, c3, c4, c5⟩ := ev_cells (e := e) hblk
          have hput := tput_any st1 (by omega) e hw
          by_cases herr : (putsR room z k).err e = 0
          · rw [herr] at hput
            unfold Ev.val at hput
            go_wp2_with (first | (go_at_call 17; (with_reducible refine hput.mono ?_); rintro a w6 ⟨rfl, st6, hkeep⟩; have hblk6 := hkeep o _ rfl hblk; clear hput hkeep c0 c1 c2 c3 c4 c5; obtain ⟨c0, c1, c2, c3, c4, c5⟩ := ev_cells (e := e) hblk6; have hput2 := tput_any st6.swap (by omega) e hw; rw [herr] at hput2; unfold Ev.val at hput2) | (go_at_call 17; (with_reducible refine hput2.mono ?_); rintro a w7 ⟨rfl, st7, hkeep⟩))
            obtain ⟨gg, rfl⟩ : ∃ gg, gk = gg + 1 := ⟨gk - 1, by omega⟩
            go_roundg gg
            case measure => omega
            case rel => exact ⟨k + 1, by go_num, by omega, by rw [HE.out.2]; exact st7.swap.forget, by omega⟩
          · have hz : ((putsR room z k).err e == 0) = false := beq_eq_false_iff_ne.2 herr
            have hz2 : decide ((putsR room z k).err e = 0) = false := decide_eq_false herr
            have hpb := put_bad (room := room) herr
            unfold Ev.val at hput
            go_wp2_with ((go_at_call 17; (with_reducible refine hput.mono ?_); rintro a w6 ⟨rfl, st6, hkeep⟩))
            obtain ⟨gg, rfl⟩ : ∃ gg, gk = gg + 1 := ⟨gk - 1, by omega⟩
            go_roundg gg
            case measure => omega
            case rel =>
              rw [hpb] at st6
              exact ⟨k + 1, by go_num, by omega, by rw [HE.out.2, hpb]; exact st6.forget, by omega⟩
        · have hlt' : ¬ (k : Int) < len := by omega
          obtain rfl : k = len := by omega
          have hcn := puts_cnt room z k
          have hfl := tflush_any st (by omega)
          go_upto_region 12 with ((go_at_call 15; (with_reducible refine hfl.mono ?_); rintro a w6 ⟨rfl, st6⟩))
          have hfl2 := tflush_any st6.swap (by omega)
          clear hfl
          go_upto_region 13 with ((go_at_call 15; (with_reducible refine hfl2.mono ?_); rintro a w7 ⟨rfl, st7⟩))
          clear st6 hfl2
          obtain ⟨O, U, g1, g2, d1, d2, d3⟩ := st7.g
          have hu := gused_any g2
          have hdr := gdrain_any g2
          obtain ⟨X, hX⟩ : ∃ X, X = (putsR room z k).flush.all := ⟨_, rfl⟩
          rw [← hX] at hu hdr
          have HX := Lib.hid hX
          clear hX
          go_wp2_with (first | (go_at_call 26; (with_reducible refine hu.mono ?_); rintro a w8 ⟨rfl, rfl⟩))
          refine hdr.mono ?_
          rintro a w9 ⟨rfl, _, on9⟩
          have g3 := g1.only on9 fun k a b => d1 k a b
          have hu2 := gused_any g3
          have hdr2 := gdrain_any g3
          rw [← HX.out] at hu2 hdr2
          have hb9 := st7.bel.trans (on9.below st7.bel.size fun i hi q => by have := (d3 i q).1; omega)
          clear hu hdr
          go_wp2_with (first | (go_at_call 26; (with_reducible refine hu2.mono ?_); rintro a w8 ⟨rfl, rfl⟩))
          refine hdr2.mono ?_
          rintro a w10 ⟨rfl, _, on10⟩
          have hb10 := hb9.trans (on10.below hb9.size fun i hi q => by have := (d2 i q).1; omega)
          go_wp2_with fail
          go_ret
          exact ⟨by simp, hb10⟩
    · have hd : decide ((300 : Int) < len) = true := by simp; omega
      go_wp2_with fail
      refine (awake23 _).mono ?_
      rintro a w4 ⟨rfl, hk4⟩
      go_wp2_with fail
      go_ret
      exact ⟨rfl, (st.below hk4).bel⟩
end Go.Proofs.Ytbfipgeoecbpaaa
