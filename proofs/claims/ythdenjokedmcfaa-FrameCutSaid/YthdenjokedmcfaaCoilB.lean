/- Contract of coil.Print. No condition but those that it names. -/
import Derived.Test.YthdenjokedmcfaaCoilS
import Derived.IntWalk
namespace Go.Proofs.Ythdenjokedmcfaa
open Go.RowKit
set_option maxRecDepth 20000
theorem six {W w' : World} {oa : Option Addr} {len cap B : Nat} {z : Nat → Ev} (h : SlArgN W oa len cap 6 (fun i j => (z i).f j)) (k : Below B W w') (hB : W.heap.size ≤ B) {i : Nat} (hi : i < len) :
    ∃ b off, oa = some ⟨b, off, none⟩ ∧ b < W.heap.size ∧ w'.cell? ⟨b, off + i * 6, none⟩ = some (.int .i64 (z i).k) ∧ w'.cell? ⟨b, off + i * 6 + 1, none⟩ = some (.int .u64 (z i).cy) ∧ w'.cell? ⟨b, off + i * 6 + 2, none⟩ = some (.int .u64 (z i).ct) ∧ w'.cell? ⟨b, off + i * 6 + 3, none⟩ = some (.int .u32 (z i).a) ∧ w'.cell? ⟨b, off + i * 6 + 4, none⟩ = some (.int .u32 (z i).b) ∧ w'.cell? ⟨b, off + i * 6 + 5, none⟩ = some (.int .u32 (z i).v) := by
  obtain ⟨b, off, h1, h2, h3⟩ := h.below k hB hi
  exact ⟨b, off, h1, h2, h3 0 (by decide), h3 1 (by decide), h3 2 (by decide), h3 3 (by decide), h3 4 (by decide), h3 5 (by decide)⟩
theorem bel_undrew {B : Nat} {w w9 : World} (k : Below B w.drew w9) : Below B w w9 := ⟨k.os, k.tape, k.output, k.size, k.block⟩
theorem twelve {W w9 : World} {g o off : Nat} {x0 x1 x2 x3 x4 x5 x6 x7 x8 x9 x10 x11 : Value} (hk : Below W.drew.heap.size W.drew w9) (hg : g < W.heap.size) (ho : o < W.heap.size) (h : W.cell? ⟨g, off, none⟩ = some x0 ∧ W.cell? ⟨g, off + 1, none⟩ = some x1 ∧ W.cell? ⟨g, off + 2, none⟩ = some x2 ∧ W.cell? ⟨g, off + 3, none⟩ = some x3 ∧ W.cell? ⟨g, off + 4, none⟩ = some x4 ∧ W.cell? ⟨g, off + 5, none⟩ = some x5 ∧ W.cell? ⟨o, 0, none⟩ = some x6 ∧ W.cell? ⟨o, 1, none⟩ = some x7 ∧ W.cell? ⟨o, 2, none⟩ = some x8 ∧ W.cell? ⟨o, 3, none⟩ = some x9 ∧ W.cell? ⟨o, 4, none⟩ = some x10 ∧ W.cell? ⟨o, 5, none⟩ = some x11) : w9.cell? ⟨g, off, none⟩ = some x0 ∧ w9.cell? ⟨g, off + 1, none⟩ = some x1 ∧ w9.cell? ⟨g, off + 2, none⟩ = some x2 ∧ w9.cell? ⟨g, off + 3, none⟩ = some x3 ∧ w9.cell? ⟨g, off + 4, none⟩ = some x4 ∧ w9.cell? ⟨g, off + 5, none⟩ = some x5 ∧ w9.cell? ⟨o, 0, none⟩ = some x6 ∧ w9.cell? ⟨o, 1, none⟩ = some x7 ∧ w9.cell? ⟨o, 2, none⟩ = some x8 ∧ w9.cell? ⟨o, 3, none⟩ = some x9 ∧ w9.cell? ⟨o, 4, none⟩ = some x10 ∧ w9.cell? ⟨o, 5, none⟩ = some x11 := by
  obtain ⟨h0, h1, h2, h3, h4, h5, h6, h7, h8, h9, h10, h11⟩ := h
  exact ⟨(hk.cell (p := ⟨g, off, none⟩) hg).trans h0, (hk.cell (p := ⟨g, off + 1, none⟩) hg).trans h1, (hk.cell (p := ⟨g, off + 2, none⟩) hg).trans h2, (hk.cell (p := ⟨g, off + 3, none⟩) hg).trans h3, (hk.cell (p := ⟨g, off + 4, none⟩) hg).trans h4, (hk.cell (p := ⟨g, off + 5, none⟩) hg).trans h5, (hk.cell (p := ⟨o, 0, none⟩) ho).trans h6, (hk.cell (p := ⟨o, 1, none⟩) ho).trans h7, (hk.cell (p := ⟨o, 2, none⟩) ho).trans h8, (hk.cell (p := ⟨o, 3, none⟩) ho).trans h9, (hk.cell (p := ⟨o, 4, none⟩) ho).trans h10, (hk.cell (p := ⟨o, 5, none⟩) ho).trans h11⟩
set_option maxHeartbeats 4000000 in
theorem cprint_any (w : World) (oa : Option Addr) (len cap : Nat) (z : Nat → Ev) (hsl : SlArgN w oa len cap 6 (fun i j => (z i).f j)) (hz : ∀ i, i < len → (z i).Wf) (hlen : len ≤ 100000) :
    Calls Try.prog 48 #[.slice oa len cap] w fun x w' => x = .returned (.tuple #[.string ⟨(prnS z len).toArray⟩, .int .i64 (prnE z len)]) ∧ Below w.heap.size w w' := by
  have HZ := Lib.hid hz
  clear hz
  go_enter Try.func48, Try.ntmps48
  go_wp2_with fail
  have hW0 := IsWr.new w (fun k => w.heap.size ≤ k)
  have hB0 := (Below.refl w.heap.size w).alloc (Nat.le_refl _) (.cells #[.slice none 0 0] 92)
  obtain ⟨bw, hbw⟩ : ∃ bw, bw = w.heap.size := ⟨_, rfl⟩
  have hbw' : w.heap.size ≤ bw := by omega
  rw [← hbw] at hW0 ⊢
  generalize w.alloc (.cells #[.slice none 0 0] 92) = w1 at hW0 hB0 ⊢
  rw [hbw] at hW0
  rw [← hbw] at hW0
  go_loopw [12] (fun x wr => ∃ i : Nat, x = .int .i64 i ∧ i ≤ len ∧ prnE z i = 0 ∧ IsWr wr bw (fun k => w.heap.size ≤ k) (prnC z i) ∧ Below w.heap.size w wr) (fun x _ => len - (intOf x).toNat)
  case atStart => exact ⟨0, rfl, Nat.zero_le _, rfl, by rw [hbw] at hW0 ⊢; exact hW0, hB0⟩
  case round =>
    obtain ⟨i, rfl, hi, he, hW, hB⟩ := hrel
    clear hW0 hB0 hbw
    have HE := Lib.hid he
    clear he
    by_cases hlt : i < len
    · obtain ⟨g, off, rfl, hg, a0, a1, a2, a3, a4, a5⟩ := six hsl hB (Nat.le_refl _) hlt
      have hlt' : (i : Int) < len := by omega
      obtain ⟨e, hE⟩ : ∃ e, e = z i := ⟨_, rfl⟩
      rw [← hE] at a0 a1 a2 a3 a4 a5
      have hEw : e.Wf := hE ▸ HZ.out i hlt
      have HEE := Lib.hid hE
      clear hE
      have hck := fun x => check_any e x
      have HW := Lib.hid hEw
      clear hEw
      obtain ⟨k, cy, ct, a, b, v⟩ := e
      simp only [Ev.val] at a0 a1 a2 a3 a4 a5 hck
      have hx := hB.size
      have hO : (wr.alloc (.cells #[.int .i64 k, .int .u64 cy, .int .u64 ct, .int .u32 a, .int .u32 b, .int .u32 v] 85)).heap[wr.heap.size]? = some (.cells (Ev.cells ⟨k, cy, ct, a, b, v⟩).toArray 85 (0, 0)) := heap_alloc_new wr _
      have hB2 := hB.alloc hx (.cells #[.int .i64 k, .int .u64 cy, .int .u64 ct, .int .u32 a, .int .u32 b, .int .u32 v] 85)
      have hW2 : IsWr (wr.alloc (.cells #[.int .i64 k, .int .u64 cy, .int .u64 ct, .int .u32 a, .int .u32 b, .int .u32 v] 85)) bw (fun k => w.heap.size ≤ k) (prnC z i) := hW.alloc _
      have hob : wr.heap.size ≠ bw := by have := hW.blt; omega
      have hW3 : IsWr (wr.alloc (.cells #[.int .i64 k, .int .u64 cy, .int .u64 ct, .int .u32 a, .int .u32 b, .int .u32 v] 85)) bw (fun k => w.heap.size ≤ k ∧ k ≠ wr.heap.size) (prnC z i) := by
        obtain ⟨vv, q1, q2, q3⟩ := hW
        have q := (IsWr.alloc (R := fun k => w.heap.size ≤ k ∧ k < wr.heap.size) ⟨vv, q1, q2, fun k hk => ⟨⟨(q3 k hk).1, (q3 k hk).2.2⟩, (q3 k hk).2⟩⟩ (.cells #[.int .i64 k, .int .u64 cy, .int .u64 ct, .int .u32 a, .int .u32 b, .int .u32 v] 85))
        exact q.mono fun k hk => ⟨hk.1, by omega⟩
      clear hW hB hW2
      go_wp2_with fail
      generalize wr.alloc (.cells #[.int .i64 k, .int .u64 cy, .int .u64 ct, .int .u32 a, .int .u32 b, .int .u32 v] 85) = W at hO hB2 hW3 ⊢
      obtain ⟨o, ho⟩ : ∃ o, o = wr.heap.size := ⟨_, rfl⟩
      rw [← ho] at hO hW3 hob ⊢
      rw [← ho] at hx
      clear ho
      refine (hck _).mono ?_
      rintro x w2 ⟨rfl, hk⟩
      have hB3 := hB2.trans (hk.mono hB2.size)
      have hW4 := hW3.kept hk
      have hO4 := (hk.block _ (blk_lt hO)).trans hO
      clear hk hO hB2 hW3 a0 a1 a2 a3 a4 a5 hck
      by_cases hc : (Ev.mk k cy ct a b v).chk = 0
      · rw [hc]
        obtain ⟨g', off', hgo, hg', p0, p1, p2, p3, p4, p5⟩ := six (i := i - 1) hsl hB3 (Nat.le_refl _) (by omega)
        cases hgo
        obtain ⟨c0, c1, c2, c3, c4, c5⟩ := ev_cells hO4
        simp only at c0 c1 c2 c3 c4 c5
        obtain ⟨pe, hP⟩ : ∃ pe, pe = z (i - 1) := ⟨_, rfl⟩
        rw [← hP] at p0 p1 p2 p3 p4 p5
        have hst := fun x => steps_any pe ⟨k, cy, ct, a, b, v⟩ (hP ▸ HZ.out (i - 1) (by omega)) HW.out x
        have hcp := fun q w' h' => cput_ev pe ⟨k, cy, ct, a, b, v⟩ (hP ▸ HZ.out (i - 1) (by omega)) HW.out (chk_ok hc).1 q w' bw (fun k => w.heap.size ≤ k ∧ k ≠ o) (prnC z i) h' (by have := prnC_len z i; omega)
        have hev : evErr (z (i - 1)) (z i) = if (Stp pe ⟨k, cy, ct, a, b, v⟩).2.2 = true then 0 else 5 := by rw [← HEE.out, ← hP]; unfold evErr; rw [if_pos hc]
        have hby : evBytes pe ⟨k, cy, ct, a, b, v⟩ = evBytes (z (i - 1)) (z i) := by rw [← HEE.out, ← hP]
        rw [hby] at hcp
        have HEV := Lib.hid hev
        clear hev hby hP hc
        obtain ⟨k', cy', ct', a', b', v'⟩ := pe
        simp only [Ev.val] at p0 p1 p2 p3 p4 p5 hst hcp
        generalize Stp ⟨k', cy', ct', a', b', v'⟩ ⟨k, cy, ct, a, b, v⟩ = r at hst hcp HEV
        obtain ⟨s, d, ok⟩ := r
        simp only at hst hcp
        have HCP := Lib.hid hcp
        clear hcp
        have hgo : g ≠ o := by omega
        have hB3z := hB3.size
        have hoz := blk_lt hO4
        have hwi : IntKind.i64.wrap ((i : Int) - 1) = (i : Int) - 1 := IntWalk.i64_in _ (by omega)
        rcases Nat.eq_zero_or_pos i with hi0 | hi0
        · have e0 : off + (i - 1) * 6 = off := by omega
          rw [e0] at p0 p1 p2 p3 p4 p5
          have hl0 : (0 : Int) < len := by omega
          have hl1 : 0 < len := by omega
          have hneg : (i : Int) - 1 < 0 := by omega
          have hmx : max ((i : Int) - 1) 0 = 0 := by omega
          have HI := Lib.hid hi0
          clear hi0 e0
          have H := And.intro p0 (And.intro p1 (And.intro p2 (And.intro p3 (And.intro p4 (And.intro p5 (And.intro c0 (And.intro c1 (And.intro c2 (And.intro c3 (And.intro c4 c5))))))))))
          clear p0 p1 p2 p3 p4 p5 c0 c1 c2 c3 c4 c5
          go_wp2_with fail
          go_region_held3 (fun w' => w'.cell? ⟨g, off, none⟩ = some (.int .i64 k') ∧ w'.cell? ⟨g, off + 1, none⟩ = some (.int .u64 cy') ∧ w'.cell? ⟨g, off + 2, none⟩ = some (.int .u64 ct') ∧ w'.cell? ⟨g, off + 3, none⟩ = some (.int .u32 a') ∧ w'.cell? ⟨g, off + 4, none⟩ = some (.int .u32 b') ∧ w'.cell? ⟨g, off + 5, none⟩ = some (.int .u32 v') ∧ w'.cell? ⟨o, 0, none⟩ = some (.int .i64 k) ∧ w'.cell? ⟨o, 1, none⟩ = some (.int .u64 cy) ∧ w'.cell? ⟨o, 2, none⟩ = some (.int .u64 ct) ∧ w'.cell? ⟨o, 3, none⟩ = some (.int .u32 a) ∧ w'.cell? ⟨o, 4, none⟩ = some (.int .u32 b) ∧ w'.cell? ⟨o, 5, none⟩ = some (.int .u32 v)) (first | exact H | exact H2) (first | (go_at_call 72; (refine (hst _).mono ?_); rintro x w9 ⟨rfl, hk9⟩; have H2 : w9.cell? ⟨g, off, none⟩ = some (.int .i64 k') ∧ w9.cell? ⟨g, off + 1, none⟩ = some (.int .u64 cy') ∧ w9.cell? ⟨g, off + 2, none⟩ = some (.int .u64 ct') ∧ w9.cell? ⟨g, off + 3, none⟩ = some (.int .u32 a') ∧ w9.cell? ⟨g, off + 4, none⟩ = some (.int .u32 b') ∧ w9.cell? ⟨g, off + 5, none⟩ = some (.int .u32 v') ∧ w9.cell? ⟨o, 0, none⟩ = some (.int .i64 k) ∧ w9.cell? ⟨o, 1, none⟩ = some (.int .u64 cy) ∧ w9.cell? ⟨o, 2, none⟩ = some (.int .u64 ct) ∧ w9.cell? ⟨o, 3, none⟩ = some (.int .u32 a) ∧ w9.cell? ⟨o, 4, none⟩ = some (.int .u32 b) ∧ w9.cell? ⟨o, 5, none⟩ = some (.int .u32 v) := twelve hk9 (by omega) (by omega) H))
          have hB9 : Below w.heap.size w w9 := hB3.trans ((bel_undrew hk9).mono hB3z)
          have hW9 : IsWr w9 bw (fun k => w.heap.size ≤ k ∧ k ≠ o) (prnC z i) := hW4.kept (bel_undrew hk9)
          have hO9 : w9.heap[o]? = some (.cells (Ev.cells ⟨k, cy, ct, a, b, v⟩).toArray 85 (0, 0)) := ((bel_undrew hk9).block o hoz).trans hO4
          clear hk9 H2 H hW4 hB3 hO4 hst
          obtain ⟨c0, c1, c2, c3, c4, c5⟩ := ev_cells hO9
          simp only at c0 c1 c2 c3 c4 c5
          cases ok
          · have hR2 : prnE z (i + 1) = 5 := by rw [prnE, if_pos HE.out, HEV.out]; rfl
            have HR3 := Lib.hid (show prnE z len = 5 by rw [prnE_mono z (i := i + 1) (by rw [hR2]; decide) (by omega), hR2])
            clear hR2
            go_wp2_with fail
            go_ret2
            rw [HR3.out]
            refine ⟨?_, hB9⟩
            rw [show prnS z len = [] from by unfold prnS; rw [HR3.out]; rfl]
            rfl
          · have hR2 : prnE z (i + 1) = 0 := by rw [prnE, if_pos HE.out, HEV.out]; rfl
            have HR2 := Lib.hid hR2
            clear hR2
            go_wp2_with fail
            refine (HCP.out (by trivial) w9 hW9).mono ?_
            rintro x w10 ⟨rfl, hw⟩
            have hB10 := bel_wr hB9 hw hbw' (fun _ x => x.1) hB9.size
            have hW10 : IsWr w10 bw (fun k => w.heap.size ≤ k) (prnC z (i + 1)) := hw.1.mono fun k hk => hk.elim (fun x => x.1) (fun x => by have := hB9.size; omega)
            clear c0 c1 c2 c3 c4 c5 hw
            go_wp2_with fail
            go_roundw
            case rel => exact ⟨i + 1, by go_num, by omega, HR2.out, hW10, hB10⟩
            case measure => simp [intOf]; omega
        · have hl0 : (0 : Int) ≤ (i : Int) - 1 := by omega
          have hl1 : (i : Int) - 1 < len := by omega
          have hnn : ((i : Int) - 1).toNat = i - 1 := by omega
          have hnl : i - 1 < len := by omega
          have h1i : (1 : Int) ≤ i := by omega
          have h1n : ¬ ((i : Int) - 1 < 0) := by omega
          have hmx : max ((i : Int) - 1) 0 = (i : Int) - 1 := by omega
          have H := And.intro p0 (And.intro p1 (And.intro p2 (And.intro p3 (And.intro p4 (And.intro p5 (And.intro c0 (And.intro c1 (And.intro c2 (And.intro c3 (And.intro c4 c5))))))))))
          clear p0 p1 p2 p3 p4 p5 c0 c1 c2 c3 c4 c5
          go_wp2_with fail
          go_region_held3 (fun w' => w'.cell? ⟨g, off + (i - 1) * 6, none⟩ = some (.int .i64 k') ∧ w'.cell? ⟨g, off + (i - 1) * 6 + 1, none⟩ = some (.int .u64 cy') ∧ w'.cell? ⟨g, off + (i - 1) * 6 + 2, none⟩ = some (.int .u64 ct') ∧ w'.cell? ⟨g, off + (i - 1) * 6 + 3, none⟩ = some (.int .u32 a') ∧ w'.cell? ⟨g, off + (i - 1) * 6 + 4, none⟩ = some (.int .u32 b') ∧ w'.cell? ⟨g, off + (i - 1) * 6 + 5, none⟩ = some (.int .u32 v') ∧ w'.cell? ⟨o, 0, none⟩ = some (.int .i64 k) ∧ w'.cell? ⟨o, 1, none⟩ = some (.int .u64 cy) ∧ w'.cell? ⟨o, 2, none⟩ = some (.int .u64 ct) ∧ w'.cell? ⟨o, 3, none⟩ = some (.int .u32 a) ∧ w'.cell? ⟨o, 4, none⟩ = some (.int .u32 b) ∧ w'.cell? ⟨o, 5, none⟩ = some (.int .u32 v)) (first | exact H | exact H2) (first | (go_at_call 72; (refine (hst _).mono ?_); rintro x w9 ⟨rfl, hk9⟩; have H2 : w9.cell? ⟨g, off + (i - 1) * 6, none⟩ = some (.int .i64 k') ∧ w9.cell? ⟨g, off + (i - 1) * 6 + 1, none⟩ = some (.int .u64 cy') ∧ w9.cell? ⟨g, off + (i - 1) * 6 + 2, none⟩ = some (.int .u64 ct') ∧ w9.cell? ⟨g, off + (i - 1) * 6 + 3, none⟩ = some (.int .u32 a') ∧ w9.cell? ⟨g, off + (i - 1) * 6 + 4, none⟩ = some (.int .u32 b') ∧ w9.cell? ⟨g, off + (i - 1) * 6 + 5, none⟩ = some (.int .u32 v') ∧ w9.cell? ⟨o, 0, none⟩ = some (.int .i64 k) ∧ w9.cell? ⟨o, 1, none⟩ = some (.int .u64 cy) ∧ w9.cell? ⟨o, 2, none⟩ = some (.int .u64 ct) ∧ w9.cell? ⟨o, 3, none⟩ = some (.int .u32 a) ∧ w9.cell? ⟨o, 4, none⟩ = some (.int .u32 b) ∧ w9.cell? ⟨o, 5, none⟩ = some (.int .u32 v) := twelve hk9 (by omega) (by omega) H))
          have hB9 : Below w.heap.size w w9 := hB3.trans ((bel_undrew hk9).mono hB3z)
          have hW9 : IsWr w9 bw (fun k => w.heap.size ≤ k ∧ k ≠ o) (prnC z i) := hW4.kept (bel_undrew hk9)
          have hO9 : w9.heap[o]? = some (.cells (Ev.cells ⟨k, cy, ct, a, b, v⟩).toArray 85 (0, 0)) := ((bel_undrew hk9).block o hoz).trans hO4
          clear hk9 H2 H hW4 hB3 hO4 hst
          obtain ⟨c0, c1, c2, c3, c4, c5⟩ := ev_cells hO9
          simp only at c0 c1 c2 c3 c4 c5
          cases ok
          · have hR2 : prnE z (i + 1) = 5 := by rw [prnE, if_pos HE.out, HEV.out]; rfl
            have HR3 := Lib.hid (show prnE z len = 5 by rw [prnE_mono z (i := i + 1) (by rw [hR2]; decide) (by omega), hR2])
            clear hR2
            go_wp2_with fail
            go_ret2
            rw [HR3.out]
            refine ⟨?_, hB9⟩
            rw [show prnS z len = [] from by unfold prnS; rw [HR3.out]; rfl]
            rfl
          · have hR2 : prnE z (i + 1) = 0 := by rw [prnE, if_pos HE.out, HEV.out]; rfl
            have HR2 := Lib.hid hR2
            clear hR2
            go_wp2_with fail
            refine (HCP.out (by trivial) w9 hW9).mono ?_
            rintro x w10 ⟨rfl, hw⟩
            have hB10 := bel_wr hB9 hw hbw' (fun _ x => x.1) hB9.size
            have hW10 : IsWr w10 bw (fun k => w.heap.size ≤ k) (prnC z (i + 1)) := hw.1.mono fun k hk => hk.elim (fun x => x.1) (fun x => by have := hB9.size; omega)
            clear c0 c1 c2 c3 c4 c5 hw
            go_wp2_with fail
            go_roundw
            case rel => exact ⟨i + 1, by go_num, by omega, HR2.out, hW10, hB10⟩
            case measure => simp [intOf]; omega
      · have hd : ((Ev.mk k cy ct a b v).chk != 0) = true := by simp [hc]
        have hR : evErr (z (i - 1)) (z i) = 3 := by rw [← HEE.out]; unfold evErr; rw [if_neg hc]
        have hR2 : prnE z (i + 1) = 3 := by rw [prnE, if_pos HE.out, hR]
        have HR3 := Lib.hid (show prnE z len = 3 by rw [prnE_mono z (i := i + 1) (by rw [hR2]; decide) (by omega), hR2])
        clear hc hR hR2
        go_wp2_with fail
        go_ret2
        rw [HR3.out]
        refine ⟨?_, hB3⟩
        rw [show prnS z len = [] from by unfold prnS; rw [HR3.out]; rfl]
        rfl
    · obtain rfl : i = len := by omega
      go_wp2_with fail
      refine (string_any hW).mono ?_
      rintro x w2 ⟨rfl, n, rfl⟩
      go_wp2_with fail
      go_ret2
      rw [HE.out]
      refine ⟨?_, below_drewN hB n⟩
      rw [show prnS z i = prnC z i from by unfold prnS; rw [HE.out]; rfl]
      rfl
end Go.Proofs.Ythdenjokedmcfaa
