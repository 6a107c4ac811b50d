/- The closed facts of law09.awake. No condition. -/
import Derived.Test.YthdenjokedmcfaaHu
namespace Go.Proofs.Ythdenjokedmcfaa
open Go.RowKit
set_option linter.unusedVariables false
set_option linter.unusedSimpArgs false
set_option maxRecDepth 100000
def eH : Ev := ⟨22, 0, 0, 1, 0, 0⟩
def fL (s : Nat) : List UInt8 := frS s (fun _ => eH) 1
def hb3 : List UInt8 := (fL 3).set 56 ((fL 3).getD 56 0 ^^^ 1)
theorem ha_len (s : Nat) (h : s = 0 ∨ s = 2 ∨ s = 3 ∨ s = 4) : (fL s).length = 63 := by
  rcases h with rfl | rfl | rfl | rfl <;> kernel_rfl
theorem ha_1 : hfin ⟨(fL 0 ++ (fL 2).take 30).toArray⟩ false ⟨[], 0, 0, 0, 0⟩ = ⟨[(1, 0, 0, [eH])], 63, 1, 0, 0⟩ := by kernel_rfl
theorem ha_2 : hfin ⟨(fL 2 ++ hb3 ++ fL 4).toArray⟩ false ⟨[], 0, 1, 0, 0⟩ = ⟨[(2, 1, 1, []), (1, 2, 0, [eH]), (2, 3, 1, []), (1, 4, 0, [eH])], 189, 5, 63, 2⟩ := by kernel_rfl
theorem ha_0 (s : Nat) (h : s = 0 ∨ s = 2 ∨ s = 3 ∨ s = 4) : frE (fun _ => eH) 1 = 0 ∧ (⟨(fL s).toArray⟩ : ByteArray).size = 63 := by
  rcases h with rfl | rfl | rfl | rfl <;> exact ⟨by kernel_rfl, by kernel_rfl⟩
theorem ha_3 : (⟨#[]⟩ : ByteArray) ++ ((⟨(fL 0).toArray⟩ : ByteArray) ++ (⟨(fL 2).toArray⟩ : ByteArray).extract 0 30) = ⟨(fL 0 ++ (fL 2).take 30).toArray⟩ := by kernel_rfl
theorem ha_4 : (⟨(fL 0 ++ (fL 2).take 30).toArray⟩ : ByteArray).extract 63 93 ++ ((⟨(fL 2).toArray⟩ : ByteArray).extract 30 63 ++ ⟨hb3.toArray⟩ ++ ⟨(fL 4).toArray⟩) = ⟨(fL 2 ++ hb3 ++ fL 4).toArray⟩ := by kernel_rfl
theorem ha_5 : (⟨(fL 0 ++ (fL 2).take 30).toArray⟩ : ByteArray).size = 93 := by kernel_rfl
theorem ha_6 : (⟨(fL 2 ++ hb3 ++ fL 4).toArray⟩ : ByteArray).size = 189 := by kernel_rfl
theorem ha_7 : (fL 3)[56]? = some 0 := by kernel_rfl
theorem ha_8 : hb3 = (fL 3).set 56 1 := by kernel_rfl
end Go.Proofs.Ythdenjokedmcfaa
