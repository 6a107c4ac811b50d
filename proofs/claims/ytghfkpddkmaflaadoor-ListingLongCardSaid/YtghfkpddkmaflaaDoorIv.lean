/- Contracts of the listing's reader: next, register, mode, number. Conditions: the library's variables' data. -/
import Derived.Test.YtghfkpddkmaflaaDoorIl
namespace Go.Proofs.YtghfkpddkmaflaaDoor
open Go Go.RowKit
set_option linter.unusedVariables false
set_option linter.unusedSimpArgs false
set_option maxRecDepth 20000
def txB (x : List UInt8) : ByteArray := ⟨x.toArray⟩
/-- Where a reader stands: the words that are left, and whether it has failed. -/
structure RS (w : World) (r q : Nat) (rem : List (List UInt8)) (bad : Bool) : Prop where
  ex : ∃ o, w.heap[r]? = some (.cells #[.slice (some ⟨q, o, none⟩) rem.length rem.length, .bool bad] 66 (0, 0)) ∧ ∀ i, i < rem.length → w.cell? ⟨q, o + i, none⟩ = some (.string (txB (rem.getD i [])))
  qr : q < r
  sz : ∀ x ∈ rem, x.length ≤ 99000
  ln : rem.length ≤ 99000
theorem RS.on {S : Nat → Prop} {w w' : World} {r q : Nat} {rem : List (List UInt8)} {bad : Bool} (h : RS w r q rem bad) (k : Only S w w') (h1 : ¬ S r) (h2 : ¬ S q) : RS w' r q rem bad := by
  obtain ⟨⟨o, hb, hc⟩, hq, hs, hl⟩ := h
  refine ⟨⟨o, k.keeps hb h1, fun i hi => ?_⟩, hq, hs, hl⟩
  rw [← hc i hi]
  unfold World.cell?
  rw [k.block q (Nat.lt_trans hq (blk_lt hb)) h2]
theorem txB_size (x : List UInt8) : (txB x).size = x.length := by
  show x.toArray.size = _
  simp
/-- What next does. -/
def NxtPost (w : World) (r q : Nat) (rem : List (List UInt8)) (bad : Bool) (e : Ending) (w' : World) : Prop :=
  e = .returned (.string (txB (rem.headD []))) ∧ RS w' r q rem.tail (bad || rem.isEmpty) ∧ Only (fun k => k = r) w w'
set_option maxHeartbeats 1000000 in
theorem lnext_any (r q : Nat) (rem : List (List UInt8)) (bad : Bool) (w : World) (h : RS w r q rem bad) : Calls Tryd.prog 35 #[.pointer (some ⟨r, 0, none⟩)] w (NxtPost w r q rem bad) := by
  obtain ⟨⟨o, hb, hc⟩, hq, hs, hl⟩ := h
  have y0 : w.cell? ⟨r, 0, none⟩ = some (.slice (some ⟨q, o, none⟩) rem.length rem.length) := by rw [cell_blk hb]; rfl
  have y1 : w.cell? ⟨r, 1, none⟩ = some (.bool bad) := by rw [cell_blk hb]; rfl
  have f0 := frozen_blk hb 0
  have f1 := frozen_blk hb 1
  have fin0 : NxtPost w r q [] bad (.returned (.string ⟨#[]⟩)) (w.setCell ⟨r, 1, none⟩ (.bool true)) ∨ rem ≠ [] := by
    by_cases hr : rem = []
    · subst hr
      refine Or.inl ⟨rfl, ⟨⟨o, ?_, fun i hi => absurd hi (Nat.not_lt_zero _)⟩, hq, fun x hx => absurd hx (List.not_mem_nil), Nat.zero_le _⟩, (Only.refl _ w).setCell _ _ (fun _ => rfl)⟩
      rw [blk_setCell hb]
      cases bad <;> rfl
    · exact Or.inr hr
  cases rem with
  | nil =>
    have fin := fin0.resolve_right (fun h => h rfl)
    have FIN := Lib.hid fin
    clear fin fin0 hc hs hl
    go_enter Tryd.func35, Tryd.ntmps35
    go_wp2_with fail
    go_ret
    exact FIN.out
  | cons x t =>
    have z0 : w.cell? ⟨q, o, none⟩ = some (.string (txB x)) := hc 0 (by simp)
    have fin : ∀ o' : Nat, (0 < t.length → o' = o + 1) → NxtPost w r q (x :: t) bad (.returned (.string (txB x))) (w.setCell ⟨r, 0, none⟩ (.slice (some ⟨q, o', none⟩) t.length t.length)) := by
      intro o' ho'
      refine ⟨rfl, ⟨⟨o', ?_, fun i hi => ?_⟩, hq, fun y hy => hs y (List.mem_cons_of_mem _ hy), by rw [List.length_cons] at hl; show t.length ≤ 99000; omega⟩, (Only.refl _ w).setCell _ _ (fun _ => rfl)⟩
      · rw [blk_setCell hb]
        cases bad <;> rfl
      · have hi : i < t.length := hi
        rw [ho' (by omega), show o + 1 + i = o + (i + 1) by omega]
        have := hc (i + 1) (by rw [List.length_cons]; omega)
        rw [show ((x :: t).tail.getD i []) = ((x :: t).getD (i + 1) []) from rfl, ← this]
        unfold World.cell?
        rw [Below.heap_setCell _ _ _ _ (show q ≠ r by omega)]
    have FIN := Lib.hid fin
    clear fin fin0 hc hs hb
    rw [List.length_cons] at y0 hl
    generalize t.length = n at y0 FIN hl
    by_cases hn : n = 0
    · subst hn
      go_enter Tryd.func35, Tryd.ntmps35
      go_wp2_with fail
      go_ret
      exact FIN.out o (fun h => absurd h (by decide))
    · have hnI : (0 : Int) < n := by omega
      have hn1 : ((n : Int) + 1 == 0) = false := by rw [beq_eq_false_iff_ne]; omega
      have hlI : (n : Int) + 1 ≤ 99000 := by omega
      go_enter Tryd.func35, Tryd.ntmps35
      go_wp2_with fail
      go_ret
      exact FIN.out (o + 1) (fun _ => rfl)
end Go.Proofs.YtghfkpddkmaflaaDoor
