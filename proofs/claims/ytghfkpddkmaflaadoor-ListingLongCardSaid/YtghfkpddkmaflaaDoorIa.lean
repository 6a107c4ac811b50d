/- Contracts of package isa (is, uses, Uses, register). No condition but those that each names. -/
import Derived.Test.YtghfkpddkmaflaaDoorProg
import Derived.Test.YtghfkpddkmaflaaDoorCore
import Derived.Test.YtghfkpddkmaflaaDoorLi
namespace Go.Proofs.YtghfkpddkmaflaaDoor
open Go Go.RowKit
set_option linter.unusedVariables false
set_option linter.unusedSimpArgs false
set_option maxRecDepth 20000
theorem ieqb_f {k n : Int} (h : k ≠ n) : (k == n) = false := by simpa using h
theorem i_cases {k : Int} (h0 : 1 ≤ k) (h1 : k ≤ 38) : k = 1 ∨ k = 2 ∨ k = 3 ∨ k = 4 ∨ k = 5 ∨ k = 6 ∨ k = 7 ∨ k = 8 ∨ k = 9 ∨ k = 10 ∨ k = 11 ∨ k = 12 ∨ k = 13 ∨ k = 14 ∨ k = 15 ∨ k = 16 ∨ k = 17 ∨ k = 18 ∨ k = 19 ∨ k = 20 ∨ k = 21 ∨ k = 22 ∨ k = 23 ∨ k = 24 ∨ k = 25 ∨ k = 26 ∨ k = 27 ∨ k = 28 ∨ k = 29 ∨ k = 30 ∨ k = 31 ∨ k = 32 ∨ k = 33 ∨ k = 34 ∨ k = 35 ∨ k = 36 ∨ k = 37 ∨ k = 38 := by omega
theorem iis_any (k : Int) (w : World) : Calls Tryd.prog 46 #[.int .i64 k] w fun e w' => e = .returned (.bool (isI k)) ∧ w = w' := by
  by_cases h1 : 1 ≤ k <;> by_cases h2 : k ≤ 38
  all_goals (have e : isI k = (decide (1 ≤ k) && decide (k ≤ 38)) := by simp [isI])
  all_goals (rw [e]; clear e)
  all_goals (simp only [h1, h2])
  all_goals go_enter Tryd.func46, Tryd.ntmps46
  all_goals go_wp2
  all_goals go_ret
  all_goals exact ⟨rfl, rfl⟩
set_option maxHeartbeats 4000000 in
theorem uses_any (k : Int) (w : World) : Calls Tryd.prog 48 #[.int .i64 k] w fun e w' => e = .returned (.int .i64 (us k)) ∧ w = w' := by
  by_cases hk : 1 ≤ k ∧ k ≤ 38
  · rcases i_cases hk.1 hk.2 with rfl | rfl | rfl | rfl | rfl | rfl | rfl | rfl | rfl | rfl | rfl | rfl | rfl | rfl | rfl | rfl | rfl | rfl | rfl | rfl | rfl | rfl | rfl | rfl | rfl | rfl | rfl | rfl | rfl | rfl | rfl | rfl | rfl | rfl | rfl | rfl | rfl | rfl
    all_goals
      clear hk
      go_enter Tryd.func48, Tryd.ntmps48
      go_wp2_with fail
      go_ret
      exact ⟨rfl, rfl⟩
  · have hu : us k = 0 := us_no (by omega)
    have h1 : (k == 1) = false := ieqb_f (by omega)
    have h18 : (k == 18) = false := ieqb_f (by omega)
    have h19 : (k == 19) = false := ieqb_f (by omega)
    have h21 : (k == 21) = false := ieqb_f (by omega)
    have h22 : (k == 22) = false := ieqb_f (by omega)
    have h26 : (k == 26) = false := ieqb_f (by omega)
    have h30 : (k == 30) = false := ieqb_f (by omega)
    have h31 : (k == 31) = false := ieqb_f (by omega)
    have h32 : (k == 32) = false := ieqb_f (by omega)
    have h2 : (k == 2) = false := ieqb_f (by omega)
    have h15 : (k == 15) = false := ieqb_f (by omega)
    have h16 : (k == 16) = false := ieqb_f (by omega)
    have h17 : (k == 17) = false := ieqb_f (by omega)
    have h20 : (k == 20) = false := ieqb_f (by omega)
    have h23 : (k == 23) = false := ieqb_f (by omega)
    have h24 : (k == 24) = false := ieqb_f (by omega)
    have h25 : (k == 25) = false := ieqb_f (by omega)
    have h27 : (k == 27) = false := ieqb_f (by omega)
    have h28 : (k == 28) = false := ieqb_f (by omega)
    have h29 : (k == 29) = false := ieqb_f (by omega)
    have h33 : (k == 33) = false := ieqb_f (by omega)
    have h34 : (k == 34) = false := ieqb_f (by omega)
    have hh : ¬ 3 ≤ k ∨ (3 ≤ k ∧ ¬ k ≤ 14) := by omega
    have HU := Lib.hid hu
    clear hu hk
    rcases hh with hh | ⟨hh, hh2⟩
    all_goals
      go_enter Tryd.func48, Tryd.ntmps48
      go_wp2_with fail
      go_ret
      refine ⟨?_, rfl⟩
      rw [HU.out]
      rfl
theorem us_bits : ∀ u : Fin 32, ((bits BinOp.and IntKind.i64 (u.val : Int) 1 != 0) = (u.val % 2 == 1)) ∧ ((bits BinOp.and IntKind.i64 (u.val : Int) 2 != 0) = (u.val / 2 % 2 == 1)) ∧ ((bits BinOp.and IntKind.i64 (u.val : Int) 4 != 0) = (u.val / 4 % 2 == 1)) ∧ ((bits BinOp.and IntKind.i64 (u.val : Int) 8 != 0) = (u.val / 8 % 2 == 1)) ∧ ((bits BinOp.and IntKind.i64 (u.val : Int) 16 != 0) = (u.val / 16 % 2 == 1)) := by decide +kernel
theorem us_lt (k : Int) : us k < 32 := by
  by_cases hk : 1 ≤ k ∧ k ≤ 38
  · rcases i_cases hk.1 hk.2 with rfl | rfl | rfl | rfl | rfl | rfl | rfl | rfl | rfl | rfl | rfl | rfl | rfl | rfl | rfl | rfl | rfl | rfl | rfl | rfl | rfl | rfl | rfl | rfl | rfl | rfl | rfl | rfl | rfl | rfl | rfl | rfl | rfl | rfl | rfl | rfl | rfl | rfl <;> decide
  · rw [us_no (by omega)]; decide
theorem iuses_any (k : Int) (w : World) : Calls Tryd.prog 21 #[.int .i64 k] w fun e w' => e = .returned (.tuple #[.bool (uA k), .bool (uB k), .bool (uC k), .bool (uD k), .bool (uK k)]) ∧ w = w' := by
  have hu := fun x => uses_any k x
  obtain ⟨e1, e2, e3, e4, e5⟩ := us_bits ⟨us k, us_lt k⟩
  simp only at e1 e2 e3 e4 e5
  have HE := Lib.hid (show uA k = (bits BinOp.and IntKind.i64 (us k : Int) 1 != 0) ∧ uB k = (bits BinOp.and IntKind.i64 (us k : Int) 2 != 0) ∧ uC k = (bits BinOp.and IntKind.i64 (us k : Int) 4 != 0) ∧ uD k = (bits BinOp.and IntKind.i64 (us k : Int) 8 != 0) ∧ uK k = (bits BinOp.and IntKind.i64 (us k : Int) 16 != 0) from ⟨e1.symm, e2.symm, e3.symm, e4.symm, e5.symm⟩)
  clear e1 e2 e3 e4 e5
  go_enter Tryd.func21, Tryd.ntmps21
  go_wp2_with fail
  refine (hu _).mono ?_
  rintro e w1 ⟨rfl, rfl⟩
  go_wp2_with fail
  exact bodyPost_ret (v := .tuple #[.bool (bits BinOp.and IntKind.i64 (us k : Int) 1 != 0), .bool (bits BinOp.and IntKind.i64 (us k : Int) 2 != 0), .bool (bits BinOp.and IntKind.i64 (us k : Int) 4 != 0), .bool (bits BinOp.and IntKind.i64 (us k : Int) 8 != 0), .bool (bits BinOp.and IntKind.i64 (us k : Int) 16 != 0)]) (by simp [results, Tryd.results21, go_sem]) rfl ⟨by rw [HE.out.1, HE.out.2.1, HE.out.2.2.1, HE.out.2.2.2.1, HE.out.2.2.2.2], rfl⟩
theorem ireg_any (n : Int) (h : Bool) (w : World) : Calls Tryd.prog 47 #[.int .i64 n, .bool h] w fun e w' => e = .returned (.bool (rgB n h)) ∧ w = w' := by
  have e : rgB n h = (decide (0 ≤ n) && (decide (n < 8) && (h || n == 0))) := rfl
  rw [e]
  clear e
  by_cases h1 : 0 ≤ n <;> by_cases h2 : n < 8 <;> cases h
  all_goals (simp only [h1, h2])
  all_goals go_enter Tryd.func47, Tryd.ntmps47
  all_goals go_wp2_with fail
  all_goals go_ret
  all_goals exact ⟨rfl, rfl⟩
end Go.Proofs.YtghfkpddkmaflaaDoor
