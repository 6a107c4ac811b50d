/- The walks of the statements of layer 24: a pipe's calls in every order. -/
import Derived.Test.YtbfipgeoecbpaaaPipeR
import Derived.Test.YtbfipgeoecbpaaaSl
namespace Go.Proofs.Ytbfipgeoecbpaaa
open Go.RowKit
set_option maxRecDepth 20000
theorem new_bad (n : Int) (h : n < 1 ∨ 64 < n) (w : World) : Calls Try.prog 38 #[.int .i64 n] w fun e w' => e = .returned (.tuple #[.pointer none, .int .i64 1]) ∧ w = w' := by
  by_cases h0 : n < 1
  · go_enter Try.func38, Try.ntmps38
    go_wp2
    go_ret2
    exact ⟨rfl, rfl⟩
  · have h1 : 64 < n := by omega
    have h2 : 1 ≤ n := by omega
    clear h h0
    go_enter Try.func38, Try.ntmps38
    go_wp2
    go_ret2
    exact ⟨rfl, rfl⟩
theorem pipe_below {w w1 w' : World} {b c : Nat} (h : Below w.heap.size w w1) (hb : w.heap.size ≤ b) (hc : w.heap.size ≤ c) (o : Only (fun k => k = b ∨ k = c) w1 w') : Below w.heap.size w w' :=
  h.trans (o.below h.size (fun i hi hs => by rcases hs with hs | hs <;> omega))
theorem Only.c {b c : Nat} {w w' : World} (o : Only (fun k => k = c) w w') : Only (fun k => k = b ∨ k = c) w w' := o.mono fun _ _ h => .inr h
set_option maxHeartbeats 1000000 in
theorem awake24 (w : World) : Calls Try.prog 39 #[] w fun e w' => e = .returned (.bool true) ∧ Below w.heap.size w w' := by
  have hB := Below.refl w.heap.size w
  go_enter Try.func39, Try.ntmps39
  go_wp2_with fail
  refine (pnew_any 1 (by omega) (by omega) _).mono ?_
  rintro e w1 ⟨b, c, rfl, hP, hb, hc, hk⟩
  clear hB
  have hB := hk
  clear hk
  go_wp2_with fail
  refine (new_bad 65 (by omega) _).mono ?_
  rintro e w2 ⟨rfl, rfl⟩
  go_wp2_with fail
  refine (offer_room hP (by decide) _).mono ?_
  rintro e w3 ⟨rfl, hP3, hO⟩
  have hB3 := pipe_below hB hb hc (Only.c (b := b) hO)
  clear hB hP hO
  go_wp2_with fail
  refine (offer_full hP3 (by decide) _).mono ?_
  rintro e w4 ⟨rfl, hP4, hO⟩
  have hB4 := pipe_below hB3 hb hc (Only.c (b := b) hO)
  clear hB3 hP3 hO
  go_wp2_with fail
  refine (close_open hP4).mono ?_
  rintro e w5 ⟨rfl, hP5, hO⟩
  have hB5 := pipe_below hB4 hb hc hO
  clear hB4 hP4 hO
  go_wp2_with fail
  refine (take_some hP5).mono ?_
  rintro e w6 ⟨rfl, hP6, hO⟩
  have hB6 := pipe_below hB5 hb hc (Only.c (b := b) hO)
  clear hB5 hP5 hO
  go_wp2_with fail
  refine (take_none hP6).mono ?_
  rintro e w7 ⟨rfl, hP7, hO⟩
  have hB7 := pipe_below hB6 hb hc (Only.c (b := b) hO)
  clear hB6 hP6 hO
  go_wp2_with fail
  refine (pipeOver_any hP7).mono ?_
  rintro e w8 ⟨rfl, rfl⟩
  go_wp2_with fail
  refine (offer_closed hP7 _).mono ?_
  rintro e w9 ⟨rfl, hP8, hO⟩
  have hB8 := pipe_below hB7 hb hc (Only.c (b := b) hO)
  go_wp2_with fail
  go_ret
  exact ⟨rfl, hB8⟩
end Go.Proofs.Ytbfipgeoecbpaaa
