/- The walks of the statements of layer 2. -/
import Derived.Test.YtedbbmopckbfbaaRef2
import Derived.Deep.DeepMust
namespace Go.Proofs.Ytedbbmopckbfbaa
open Go.RowKit
set_option maxRecDepth 20000
set_option maxHeartbeats 1000000 in
theorem awake2 (w : World) : Calls Try.prog 23 #[] w fun e w' => e = .returned (.bool true) ∧ Below w.heap.size w w' := by
  have L1 : lget ⟨#[172, 2]⟩ 0 = (300, 0, 2) := by decide +kernel
  have L2 : lget ⟨#[128, 0]⟩ 0 = (0, 3, 0) := by decide +kernel
  have L3 : lget ⟨#[128]⟩ 0 = (0, 2, 0) := by decide +kernel
  have L4 : leb 10 300 = [172, 2] := by decide +kernel
  have L5 : foldV (-1) = 1 := by decide +kernel
  have L6 : foldV 1 = 2 := by decide +kernel
  have L7 : unfoldV 3 = -2 := by decide +kernel
  have L8 : lsz 300 = 2 := by decide +kernel
  go_enter Try.func23, Try.ntmps23
  go_wp2_with (fail)
  go_at_call 21
  refine (lput_any (IsWr.fresh w) 300 (by decide) (by decide)).mono ?_
  rintro e w1 ⟨rfl, hw1⟩
  have hB := kept_wrNew hw1 (fun _ h => h.elim)
  have hW := hw1.1
  rw [L4] at hW
  clear hw1
  go_wp2_with (first | (go_at_call 29; refine (new_any _ _).mono ?_; rintro e w2 ⟨rfl, rfl⟩) | (go_at_call 40; go_must (refine (lget_any (isRd_new _ _) (Nat.zero_le _) (by decide)).mono ?_); rintro e w3 ⟨rfl, hq⟩; have hk := kept_rdNew hq; have hB2 := bel_start hB hk; have hW2 := hW.kept hk; clear hq hk hB hW; have hB := hB2; have hW := hW2; clear hB2 hW2) | (go_at_call 22; go_must (refine (string_any hW).mono ?_); rintro e w4 ⟨rfl, n4, rfl⟩) | (go_at_call 24; go_must (refine (lfold_any _ (by decide) (by decide) _).mono ?_); rintro e w5 ⟨rfl, rfl⟩) | (go_at_call 26; go_must (refine (lunfold_any 3 (by decide) _).mono ?_); rintro e w5 ⟨rfl, rfl⟩) | (go_at_call 27; go_must (refine (lsize_any 300 (by decide) _).mono ?_); rintro e w5 ⟨rfl, rfl⟩))
  go_ret
  exact ⟨rfl, below_drewN hB _⟩

set_option maxHeartbeats 1000000 in
theorem lebOne_walk (a b : Nat) (ha : a < U64) (hb : b < U64) (w : World) : Calls Try.prog 3 #[.int .u64 a, .int .u64 b] w fun e w' => e = .returned (.bool true) ∧ Below w.heap.size w w' := by
  have h1 := (IsWr.fresh w).alloc (.cells #[.slice none 0 0] 25)
  have h2 := IsWr.fresh (w.alloc (.cells #[.slice none 0 0] 25))
  have Ha := Lib.hid ha
  have Hb := Lib.hid hb
  have hEq : (leb 10 a == leb 10 b) = ((a : Int) == (b : Int)) := by
    rw [Bool.eq_iff_iff, beq_iff_eq, beq_iff_eq]
    exact ⟨fun h => congrArg Nat.cast (leb_inj a b ha hb h), fun h => by rw [Int.ofNat_inj.1 h]⟩
  have hpre : (({ data := (leb 10 b).toArray } : ByteArray).extract 0 (leb 10 a).length).toList = (leb 10 b).take (leb 10 a).length := by
    rw [Lib.extract_toList]; simp
  have hbeg : (leb 10 a).length ≤ (leb 10 b).length → (((leb 10 b).take (leb 10 a).length) == leb 10 a) = ((a : Int) == (b : Int)) := by
    intro _
    rw [Bool.eq_iff_iff, beq_iff_eq, beq_iff_eq]
    constructor
    · intro h
      exact congrArg Nat.cast (leb_prefix 9 a b (u64_pow a ha) (u64_pow b hb) (h ▸ List.take_prefix _ _))
    · intro h
      rw [Int.ofNat_inj.1 h]; simp
  have hlen : ¬ (leb 10 a).length ≤ (leb 10 b).length → ((a : Int) == (b : Int)) = false := by
    intro h
    rw [beq_eq_false_iff_ne]
    intro e
    exact h (by rw [Int.ofNat_inj.1 e]; exact Nat.le_refl _)
  clear ha hb
  by_cases hl : (leb 10 a).length ≤ (leb 10 b).length
  all_goals first | (have Hb2 := hbeg hl) | (have Hb2 := hlen hl)
  all_goals clear hbeg hlen
  all_goals go_enter Try.func3, Try.ntmps3
  all_goals go_wp2_with fail
  all_goals refine (lput_any h1 a Ha.out (by decide)).mono ?_
  all_goals rintro e w1 ⟨rfl, hw1⟩
  all_goals have h3 := h2.only hw1.2 (by simp) (fun k hk hf => hf.elim)
  all_goals go_wp2_with fail
  all_goals have e1 : (w.alloc (Obj.cells #[Value.slice none 0 0] 25)).heap.size = w.heap.size + 1 := by simp
  all_goals rw [e1] at h3
  all_goals refine (lput_any h3 b Hb.out (by decide)).mono ?_
  all_goals rintro e w2 ⟨rfl, hw2⟩
  all_goals have h4 := hw1.1.only hw2.2 (by simp) (fun k hk hr hs => by simp at hr hs; omega)
  all_goals have h5 := hw2.1
  all_goals go_wp2_with (first | (go_at_call 22; (with_reducible refine (string_any h4).mono ?_); rintro e w4 ⟨rfl, n4, rfl⟩) | (go_at_call 22; (with_reducible refine (string_any (h5.drewN _)).mono ?_); rintro e w4 ⟨rfl, n5, rfl⟩) | (go_at_call 23; with_reducible refine (awake2 _).mono ?_; rintro e w5 ⟨rfl, hB5⟩))
  all_goals go_ret
  all_goals have hk1 : Below w.heap.size w w1 := (((((Only.refl (fun _ => False) w).alloc _).alloc _).trans hw1.2 (fun i hi hs => by simp at hs; omega)).below (Nat.le_refl _) (fun _ _ x => x))
  all_goals have hk2 : Below w.heap.size w w2 := (((Only.of_below hk1 (fun _ => False)).trans hw2.2 (fun i hi hs => by simp at hs; omega)).below (Nat.le_refl _) (fun _ _ x => x))
  all_goals exact ⟨rfl, bel_start (below_drewN hk2 _) hB5⟩

theorem lebOne_law (a b : Int) (w : World) (ha : (Lit.int .u64 a).wf = true) (hb : (Lit.int .u64 b).wf = true) : Calls Try.prog 3 #[.int .u64 a, .int .u64 b] w fun e w' => e = .returned (.bool true) ∧ Below w.heap.size w w' := by
  obtain ⟨a, rfl, ha1⟩ := u64_of ha
  obtain ⟨b, rfl, hb1⟩ := u64_of hb
  exact lebOne_walk a b ha1 hb1 w
end Go.Proofs.Ytedbbmopckbfbaa
