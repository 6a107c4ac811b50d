/- Contract of the reference's Form (layer 10). No condition but those that each names. -/
import Derived.Test.YtghfkpddkmaflaaDoorIr
namespace Go.Proofs.YtghfkpddkmaflaaDoor
open Go Go.RowKit
set_option linter.unusedVariables false
set_option linter.unusedSimpArgs false
set_option maxRecDepth 20000
theorem bTf (b : Bool) : b = true ∨ b = false := by cases b <;> simp
theorem okB_ref (i : Ins) : i.okB = !(decide (i.a < 0 ∨ 7 < i.a ∨ i.b < 0 ∨ 7 < i.b ∨ i.c < 0 ∨ 7 < i.c ∨ i.d < 0 ∨ 2 < i.d) || (((!uA i.o && !(i.a == 0)) || ((!uB i.o && !(i.b == 0)) || ((!uC i.o && !(i.c == 0)) || ((!uD i.o && !(i.d == 0)) || (!uK i.o && !((i.k : Int) == 0)))))) || ((uD i.o && (!(i.d == 2) && !(i.c == 0))) || decide ((i.o = 20 ∧ ((i.k : Int) < 1 ∨ 1000 < (i.k : Int))) ∨ ((i.o = 21 ∨ i.o = 22) ∧ 15 < (i.k : Int)))))) := by
  rw [Bool.eq_iff_iff]
  unfold Ins.okB rgB hC
  obtain ⟨o, a, b, c, d, k⟩ := i
  simp only
  have hDC := @uD_uC o
  generalize uA o = hA at *
  generalize uB o = hB at *
  generalize uC o = cC at *
  generalize uD o = dD at *
  generalize uK o = kK at *
  cases hA <;> cases hB <;> cases cC <;> cases dD <;> cases kK <;> simp at * <;> omega
theorem chk_ref (i : Ins) (r4 r6 r8 r10 : Bool) (h4 : r4 = decide (i.a < 0 ∨ 7 < i.a ∨ i.b < 0 ∨ 7 < i.b ∨ i.c < 0 ∨ 7 < i.c ∨ i.d < 0 ∨ 2 < i.d)) (h6 : r6 = ((!uA i.o && !(i.a == 0)) || ((!uB i.o && !(i.b == 0)) || ((!uC i.o && !(i.c == 0)) || ((!uD i.o && !(i.d == 0)) || (!uK i.o && !((i.k : Int) == 0)))))))
    (h8 : r8 = (uD i.o && (!(i.d == 2) && !(i.c == 0)))) (h10 : r10 = decide ((i.o = 20 ∧ ((i.k : Int) < 1 ∨ 1000 < (i.k : Int))) ∨ ((i.o = 21 ∨ i.o = 22) ∧ 15 < (i.k : Int)))) :
    i.chk = if isI i.o = true then (if r4 = true then 5 else if r6 = true then 5 else if r8 = true then 5 else if r10 = true then 5 else 0) else 14 := by
  unfold Ins.chk
  rw [okB_ref, ← h4, ← h6, ← h8, ← h10]
  cases r4 <;> cases r6 <;> cases r8 <;> cases r10 <;> rfl
end Go.Proofs.YtghfkpddkmaflaaDoor
