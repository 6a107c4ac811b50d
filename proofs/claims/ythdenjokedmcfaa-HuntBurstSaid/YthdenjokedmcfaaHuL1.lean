/- The walk of the statement of layer 9: HuntNil. -/
import Derived.Test.YthdenjokedmcfaaHuB
import Derived.Test.YthdenjokedmcfaaHuS
import Derived.Test.YthdenjokedmcfaaHuZ
namespace Go.Proofs.Ythdenjokedmcfaa
open Go.RowKit
set_option linter.unusedVariables false
set_option linter.unusedSimpArgs false
set_option maxRecDepth 20000
set_option maxHeartbeats 1000000 in
theorem huntNil_law (s : ByteArray) (W : World) (_hs : s.size ≤ maxLen) : Calls Try.prog 8 #[.string s] W fun e W' => e = .returned (.bool true) ∧ Below W.heap.size W W' := by
  have hA := awake9 W
  go_enter Try.func8, Try.ntmps8
  go_wp2_with fail
  refine (hnew_nil W).mono ?_
  rintro x w1 ⟨rfl, rfl⟩
  go_wp2_with (first | (go_at_call 19; refine hA.mono ?_; rintro x w2 ⟨rfl, hB⟩) | (go_at_call 21; refine (feed_nil _ _).mono ?_; rintro x w3 ⟨rfl, rfl⟩) | (go_at_call 22; refine (hclose_nil _).mono ?_; rintro x w3 ⟨rfl, rfl⟩) | (go_at_call 25; refine (hnext_nil _).mono ?_; rintro x w3 ⟨rfl, rfl⟩) | (go_at_call 26; refine (hskipped_nil _).mono ?_; rintro x w3 ⟨rfl, rfl⟩) | (go_at_call 27; refine (hlost_nil _).mono ?_; rintro x w3 ⟨rfl, rfl⟩))
  go_ret
  exact ⟨rfl, hB⟩
end Go.Proofs.Ythdenjokedmcfaa
