/- Contracts of package event (within). No condition but those that each names. -/
import Derived.Test.YtokjkfbbejalhaaDoorProg
import Derived.Test.YtokjkfbbejalhaaDoorCore
import Derived.Test.YtokjkfbbejalhaaDoorEv
namespace Go.Proofs.YtokjkfbbejalhaaDoor
open Go.RowKit
set_option maxRecDepth 20000
theorem within_any (n o : Nat) (ho : o ≤ 14) (w : World) : Calls Tryd.prog 24 #[.int .u32 n, .int .i64 o] w fun e w' => e = .returned (.bool (wth n o)) ∧ w = w' := by
  rcases o_cases ho with rfl | rfl | rfl | rfl | rfl | rfl | rfl | rfl | rfl | rfl | rfl | rfl | rfl | rfl | rfl
  all_goals go_enter Tryd.func24, Tryd.ntmps24
  all_goals go_wp2_with fail
  all_goals go_ret
  all_goals exact ⟨ret_bool (by rw [Bool.eq_iff_iff]; simp [wth] <;> omega), rfl⟩
end Go.Proofs.YtokjkfbbejalhaaDoor
