/- An event that came in as an argument. No condition. -/
import Derived.Test.YtbfipgeoecbpaaaRcS
import Derived.WideShapes
namespace Go.Proofs.Ytbfipgeoecbpaaa
open Go.WideShapes Go.Deep Go.RowKit
set_option linter.unusedVariables false
set_option linter.unusedSimpArgs false
theorem arg_struct25 {H : Type} {enc : TypeId × Value → H} {W : World} {base : Nat} {held : Bool} {v : Value} {d : DataW H} {ps : List MemPlace}
    (hv : ∃ cs, v = .agg cs ∧ cs.size = Try.prog.cellsOf 25) (h : DataW.Trod enc Try.prog W base (fun _ => true) held 25 v d ps) : ∃ e : Ev, v = e.val ∧ e.Wf := by
  obtain ⟨cs, rfl, hsz⟩ := hv
  obtain ⟨fuel, hf⟩ := h
  have h6 : Try.prog.cellsOf 25 = 6 := by kernel_rfl
  rw [h6] at hsz
  obtain ⟨e, he, hw⟩ := ev_of (cs := cs.toList) (by simpa using hsz) hf
  refine ⟨e, ?_, hw⟩
  obtain ⟨l⟩ := cs
  simp only at he
  subst he
  rfl
end Go.Proofs.Ytbfipgeoecbpaaa
