/- The walk of the statement of layer 24: PipeNil. -/
import Derived.Test.YtbfipgeoecbpaaaW24N
namespace Go.Proofs.Ytbfipgeoecbpaaa
open Go.RowKit
set_option linter.unusedVariables false
set_option linter.unusedSimpArgs false
set_option maxRecDepth 20000
theorem hnew_some (w : World) (tb : Nat) : Calls Try.prog 32 #[.pointer (some ⟨tb, 0, none⟩)] w fun x w' => (∃ v, x = .returned (.tuple #[v, .int .i64 0])) ∧ Below w.heap.size w w' := by
  have hB := (Below.refl w.heap.size w).alloc (Nat.le_refl _) (.cells #[.pointer (some ⟨tb, 0, none⟩), .string ⟨#[]⟩, .int .u64 0, .int .u64 0, .int .u64 0, .bool false] 119)
  go_enter Try.func32, Try.ntmps32
  go_wp2_with fail
  go_ret2
  exact ⟨⟨_, by simp; rfl⟩, hB⟩
set_option maxHeartbeats 2000000 in
theorem pipeNil_law (s : ByteArray) (n : Int) (W : World) (_hs : s.size ≤ maxLen) (_hn : (Lit.int .i64 n).wf = true) :
    Calls Try.prog 11 #[.string s, .int .i64 n] W fun e W' => e = .returned (.bool true) ∧ Below W.heap.size W W' := by
  clear _hs _hn
  go_enter Try.func11, Try.ntmps11
  go_wp2_with fail
  refine (rnew_any 179 0 (.inl rfl) (by decide) (by decide) W).mono ?_
  rintro x w1 ⟨rfl, st1, hB1⟩
  go_wp2_with fail
  refine (rput_room st1 ⟨#[120]⟩ (by decide) (by decide) (by show 0 + 1 ≤ 179; decide)).mono ?_
  rintro x w2 ⟨rfl, X2, R2, e1, e2, e3, e4, e5, e6, e7, e8, e9, st2, on2⟩
  have hu : X2.used = 1 := e5
  have hB2 : Below W.heap.size W w2 := ((Only.of_below hB1 (fun k => rgS (W.heap.size + 1) (rg0 W.heap.size 179 0) k)).trans on2 fun _ _ x => x).below (Nat.le_refl _) fun i hi e => by
    rcases e with e | e | e
    · omega
    · have : i = W.heap.size := e
      omega
    · cases e
  clear e1 e2 e3 e4 e5 e6 e7 e8 e9 on2 st1 hB1
  go_wp2_with fail
  refine (make_any w2).mono ?_
  rintro x w3 ⟨rfl, hT, hk3⟩
  have hB3 := hB2.trans (hk3.mono hB2.size)
  have st3 := st2.below hk3
  clear st2 hk3 hB2 hT
  go_wp2_with fail
  refine (hnew_some w3 _).mono ?_
  rintro x w4 ⟨⟨hv, rfl⟩, hk4⟩
  have hB4 := hB3.trans (hk4.mono hB3.size)
  have st4 := st3.below hk4
  clear st3 hk4 hB3
  go_wp2_with (first | (go_at_call 52; (refine (ntake_any w4).mono ?_); rintro x w9 ⟨rfl, rfl⟩) | (go_at_call 43; (refine (nclose_any w4).mono ?_); rintro x w9 ⟨rfl, rfl⟩) | (go_at_call 48; (refine (nfeed_any w4 hv).mono ?_); rintro x w9 ⟨rfl, rfl⟩))
  refine (pnew_any 1 (by decide) (by decide) _).mono ?_
  rintro x w5 ⟨b, c, rfl, hp, hb, hc, hk5⟩
  have hB5 := hB4.trans (hk5.mono hB4.size)
  have st5 := st4.below hk5
  clear st4 hk5 hB4 hb hc
  go_wp2_with fail
  refine (awake24 w5).mono ?_
  rintro x w6 ⟨rfl, hk6⟩
  have hB6 := hB5.trans (hk6.mono hB5.size)
  have st6 := st5.below hk6
  have hp6 := hp.only (Only.of_below hk6 (fun _ => False)) (fun h => h) (fun h => h)
  clear st5 hk6 hB5 hp
  go_wp2_with (first | (go_at_call 53; (refine (noffer_any w6 s).mono ?_); rintro x w9 ⟨rfl, rfl⟩) | (go_at_call 54; (refine (nover_any w6).mono ?_); rintro x w9 ⟨rfl, rfl⟩) | (go_at_call 42; (refine (nlen_any w6).mono ?_); rintro x w9 ⟨rfl, rfl⟩))
  refine (npump_any w6 _ n).mono ?_
  rintro x w7 ⟨rfl, m7, rfl⟩
  have st7 := st6.below (kept_drewN w6 m7)
  have hp7 := hp6.only (Only.ofDrewN (fun _ => False) w6 m7) (fun h => h) (fun h => h)
  have hB7 := hB6.trans ((kept_drewN w6 m7).mono hB6.size)
  clear st6 hp6 hB6
  generalize w6.drewN m7 = w8 at *
  have hus := rused_any st7
  rw [hu] at hus
  go_wp2_with fail
  refine hus.mono ?_
  rintro x w9 ⟨rfl, rfl⟩
  go_wp2_with fail
  refine (npump2_any hp7 n).mono ?_
  rintro x w10 ⟨rfl, m10, rfl⟩
  have hB10 := hB7.trans ((kept_drewN w8 m10).mono hB7.size)
  go_wp2_with fail
  go_ret
  exact ⟨rfl, hB10⟩
end Go.Proofs.Ytbfipgeoecbpaaa
