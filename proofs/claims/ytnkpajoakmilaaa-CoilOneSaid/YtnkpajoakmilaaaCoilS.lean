/- Contracts of coil.Size and coil.Print. No condition but those that each names. -/
import Derived.Test.YtnkpajoakmilaaaCoilP
import Derived.Test.YtnkpajoakmilaaaSl
namespace Go.Proofs.Ytnkpajoakmilaaa
open Go.RowKit
set_option maxRecDepth 20000
theorem one_len' (e : Ev) (s : Nat) (d : Int) : (one e s d).length ≤ 51 := (one_len e s d).2
/-- What Size answers. -/
def szV (b e : Ev) : Nat := if (Stp b e).2.2 = true ∧ e.chk = 0 then (evBytes b e).length else 0
theorem cput_ev (b e : Ev) (hb : b.Wf) (he : e.Wf) (k : isK e.k = true) (q : (Stp b e).2.2 = true) (w : World) (bb : Nat) (R : Nat → Prop) (l : List UInt8) (h : IsWr w bb R l) (hlen : l.length + 60 ≤ 140737488355328) :
    Calls Try.prog 19 #[.pointer (some ⟨bb, 0, none⟩), e.val, .int .u64 (Stp b e).1, .int .i64 (Stp b e).2.1] w fun x w' => x = .returned (.tuple #[]) ∧ WrPost w bb R (l ++ evBytes b e) w' := by
  have := stp_yes q
  have h5 := he.ct
  exact cput_any h e k he _ (by unfold U64; omega) _ (by omega) (by omega) hlen
set_option maxHeartbeats 4000000 in
theorem csize_any (b e : Ev) (hb : b.Wf) (he : e.Wf) (w : World) : Calls Try.prog 16 #[b.val, e.val] w fun x w' => x = .returned (.int .i64 (szV b e)) ∧ Below w.heap.size w w' := by
  have hst := fun x => steps_any b e hb he x
  have hck := fun x => check_any e x
  have hchk := fun h : e.chk = 0 => (chk_ok h).1
  have hu := fun k q w' bb h => cput_ev b e hb he k q w' bb (fun _ => False) [] h (by simp)
  unfold szV
  generalize evBytes b e = L at hu ⊢
  generalize Stp b e = r at hst hu ⊢
  obtain ⟨s, d, ok⟩ := r
  simp only [List.nil_append] at hst hu ⊢
  generalize e.chk = cc at hck hchk ⊢
  clear hb he
  obtain ⟨k', cy', ct', a', b', v'⟩ := b
  obtain ⟨k, cy, ct, a, bb, v⟩ := e
  unfold Ev.val at *
  simp only at hst hck hchk hu ⊢
  have hB0 := fun o o' => ((Below.refl w.heap.size w).alloc (Nat.le_refl _) o).alloc (by simp) o'
  cases ok
  · rw [if_neg (by simp)]
    clear hu hck hchk
    go_enter Try.func16, Try.ntmps16
    go_wp2_with fail
    refine (hst _).mono ?_
    rintro x w1 ⟨rfl, hk⟩
    have hbel := (hB0 _ _).trans (hk.mono (by simp; omega))
    clear hk hB0 hst
    go_wp2_with fail
    go_ret
    exact ⟨rfl, hbel⟩
  · have hu1 := fun k => hu k rfl
    clear hu
    by_cases hc : cc = 0
    · subst hc
      rw [if_pos ⟨rfl, rfl⟩]
      have HU := Lib.hid (hu1 (hchk rfl))
      clear hchk hu1
      go_enter Try.func16, Try.ntmps16
      go_wp2_with fail
      refine (hst _).mono ?_
      rintro x w1 ⟨rfl, hk⟩
      have hblk : w1.heap[w.heap.size + 1]? = some (.cells (Ev.cells ⟨k, cy, ct, a, bb, v⟩).toArray 39 (0, 0)) := (hk.block (w.heap.size + 1) (by simp)).trans (by simpa [Ev.cells] using heap_alloc_new (w.alloc (.cells #[.int .i64 k', .int .u64 cy', .int .u64 ct', .int .u32 a', .int .u32 b', .int .u32 v'] 39)) (.cells #[.int .i64 k, .int .u64 cy, .int .u64 ct, .int .u32 a, .int .u32 bb, .int .u32 v] 39))
      have hbel := (hB0 _ _).trans (hk.mono (by simp; omega))
      obtain ⟨c0, c1, c2, c3, c4, c5⟩ := ev_cells hblk
      simp only at c0 c1 c2 c3 c4 c5
      clear hk hB0 hst
      go_wp2_with fail
      refine (hck _).mono ?_
      rintro x w2 ⟨rfl, hk⟩
      have hz1 := hbel.size
      have hbel2 := hbel.trans (hk.mono hz1)
      have hblk2 := (hk.block _ (blk_lt hblk)).trans hblk
      have hlt2 := blk_lt hblk2
      clear hk hblk hbel c0 c1 c2 c3 c4 c5 hck hz1
      obtain ⟨c0, c1, c2, c3, c4, c5⟩ := ev_cells hblk2
      simp only at c0 c1 c2 c3 c4 c5
      have hW := IsWr.new w2 (fun _ => False)
      have hbel3 := hbel2.alloc hbel2.size (.cells #[.slice none 0 0] 45)
      go_wp2_with fail
      have hu2 := HU.out _ _ hW
      refine hu2.mono ?_
      rintro x w3 ⟨rfl, hw⟩
      have hbel4 := bel_wr hbel3 hw hbel2.size (fun _ x => x.elim) (by have := hbel2.size; simp; omega)
      go_wp2_with fail
      refine (len_any hw.1).mono ?_
      rintro x w4 ⟨rfl, n, rfl⟩
      go_wp2_with fail
      go_ret
      exact ⟨rfl, below_drewN hbel4 n⟩
    · rw [if_neg (by simp [hc])]
      have hd : (cc == 0) = false := eqb_f hc
      have hd' : (cc != 0) = true := by simp [hc]
      clear hu1 hchk hc
      go_enter Try.func16, Try.ntmps16
      go_wp2_with fail
      refine (hst _).mono ?_
      rintro x w1 ⟨rfl, hk⟩
      have hblk : w1.heap[w.heap.size + 1]? = some (.cells (Ev.cells ⟨k, cy, ct, a, bb, v⟩).toArray 39 (0, 0)) := (hk.block (w.heap.size + 1) (by simp)).trans (by simpa [Ev.cells] using heap_alloc_new (w.alloc (.cells #[.int .i64 k', .int .u64 cy', .int .u64 ct', .int .u32 a', .int .u32 b', .int .u32 v'] 39)) (.cells #[.int .i64 k, .int .u64 cy, .int .u64 ct, .int .u32 a, .int .u32 bb, .int .u32 v] 39))
      have hbel := (hB0 _ _).trans (hk.mono (by simp; omega))
      obtain ⟨c0, c1, c2, c3, c4, c5⟩ := ev_cells hblk
      simp only at c0 c1 c2 c3 c4 c5
      clear hk hB0 hst
      go_wp2_with fail
      refine (hck _).mono ?_
      rintro x w2 ⟨rfl, hk⟩
      have hbel2 := hbel.trans (hk.mono hbel.size)
      clear hk hblk hbel c0 c1 c2 c3 c4 c5 hck
      go_wp2_with fail
      go_ret
      exact ⟨rfl, hbel2⟩
end Go.Proofs.Ytnkpajoakmilaaa
