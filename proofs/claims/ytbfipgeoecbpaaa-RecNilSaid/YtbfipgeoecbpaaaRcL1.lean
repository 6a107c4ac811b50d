/- The walk of the statement of layer 23: RecNil. -/
import Derived.Test.YtbfipgeoecbpaaaRcA
import Derived.Test.YtbfipgeoecbpaaaRcT
namespace Go.Proofs.Ytbfipgeoecbpaaa
open Go.RowKit
set_option linter.unusedVariables false
set_option linter.unusedSimpArgs false
set_option maxRecDepth 20000
theorem nclose_rec (w : World) (cy ct : Nat) (h1 : cy < 18446744073709551616) (h2 : ct < 18446744073709551616) : Calls Try.prog 18 #[.pointer none, .int .u64 cy, .int .u64 ct] w fun x w' => x = .returned (.int .i64 16) ∧ Below w.heap.size w w' := by
  have hp := nput_any w (closeEv cy ct)
  unfold Ev.val closeEv at hp
  dsimp only at hp
  go_enter Try.func18, Try.ntmps18
  go_wp2_with ((go_at_call 17; (refine hp.mono ?_); rintro a w2 ⟨rfl, hk⟩))
  go_ret
  exact ⟨rfl, hk⟩
set_option maxHeartbeats 2000000 in
theorem recNil_law (e : Ev) (room : Int) (w : World) (he : e.Wf) (hr : (Lit.int .i64 room).wf = true) :
    Calls Try.prog 3 #[e.val, .int .i64 room] w fun e w' => e = .returned (.bool true) ∧ Below w.heap.size w w' := by
  obtain ⟨o, ho⟩ : ∃ o, o = w.heap.size := ⟨_, rfl⟩
  have hal := (Below.refl w.heap.size w).alloc (Nat.le_refl _) (.cells #[.int .i64 e.k, .int .u64 e.cy, .int .u64 e.ct, .int .u32 e.a, .int .u32 e.b, .int .u32 e.v] 25)
  have he1 := heap_alloc_new w (.cells #[.int .i64 e.k, .int .u64 e.cy, .int .u64 e.ct, .int .u32 e.a, .int .u32 e.b, .int .u32 e.v] 25)
  rw [← ho] at he1
  have hput := fun W => nput_any W e
  unfold Ev.val at hput
  unfold Ev.val
  go_enter Try.func3, Try.ntmps3
  go_upto_region 1 with fail
  rw [← ho]
  clear ho
  generalize w.alloc (.cells #[.int .i64 e.k, .int .u64 e.cy, .int .u64 e.ct, .int .u32 e.a, .int .u32 e.b, .int .u32 e.v] 25) = w0 at *
  go_wp2_with fail
  refine (qnew_any 1048576 0 (.inl rfl) (by decide) (by decide) _).mono ?_
  rintro a w1 ⟨rfl, _, hk1⟩
  go_wp2_with fail
  refine (rcnew_nil1 _ _ _).mono ?_
  rintro a w2 ⟨rfl, rfl⟩
  go_wp2_with fail
  refine (make_any _).mono ?_
  rintro a w3 ⟨rfl, _, hk2⟩
  go_wp2_with fail
  refine (rcnew_nil2 _ _ _).mono ?_
  rintro a w4 ⟨rfl, rfl⟩
  go_wp2_with fail
  refine (nflush_any _).mono ?_
  rintro a w5 ⟨rfl, rfl⟩
  go_wp2_with fail
  refine (awake23 _).mono ?_
  rintro a w6 ⟨rfl, hk3⟩
  have b1 := hk1.trans (hk2.mono hk1.size)
  have b2 := b1.trans (hk3.mono b1.size)
  obtain ⟨c0, c1, c2, c3, c4, c5⟩ := ev_cells (e := e) ((b2.block o (blk_lt he1)).trans he1)
  go_wp2_with fail
  refine (hput _).mono ?_
  rintro a w7 ⟨rfl, hk4⟩
  go_wp2_with fail
  refine (nclose_rec _ 1 2 (by decide) (by decide)).mono ?_
  rintro a w8 ⟨rfl, hk5⟩
  go_wp2_with fail
  refine (nframes_any _).mono ?_
  rintro a w9 ⟨rfl, rfl⟩
  go_wp2_with fail
  refine (nopen_any _).mono ?_
  rintro a w10 ⟨rfl, rfl⟩
  go_wp2_with fail
  go_ret
  refine ⟨rfl, ?_⟩
  have b3 := b2.trans (hk4.mono b2.size)
  have b4 := b3.trans (hk5.mono b3.size)
  exact hal.trans (b4.mono hal.size)
end Go.Proofs.Ytbfipgeoecbpaaa
