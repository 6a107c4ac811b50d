/- Contracts of event.Kind, event.Pass. No condition but those that each names. -/
import Derived.Test.YtokjkfbbejalhaaDoorTp
import Derived.Test.YtokjkfbbejalhaaDoorEvC
import Derived.Test.YtokjkfbbejalhaaDoorGn
namespace Go.Proofs.YtokjkfbbejalhaaDoor
open Go Go.RowKit
set_option linter.unusedVariables false
set_option linter.unusedSimpArgs false
set_option maxRecDepth 20000
theorem ba_eq {a b : ByteArray} (h : a = b) : (a.toList == b.toList) = true := by subst h; simp
theorem ba_ne {a b : ByteArray} (h : ¬ a = b) : (a.toList == b.toList) = false := by
  cases hc : (a.toList == b.toList) with
  | false => rfl
  | true =>
    exfalso
    apply h
    have h2 := eq_of_beq hc
    rw [ByteArray.toList_eq, ByteArray.toList_eq] at h2
    cases a; cases b
    exact congrArg ByteArray.mk (Array.toList_inj.1 h2)
set_option maxHeartbeats 1000000 in
theorem kind_any (s : ByteArray) (w : World) : Calls Tryd.prog 14 #[.string s] w fun e w' => e = .returned (.int .i64 (kd s)) ∧ Below w.heap.size w w' := by
  go_enter Tryd.func14, Tryd.ntmps14
  go_wp2_with fail
  go_loopw [3] (fun x wr => ∃ k : Nat, x = .int .i64 k ∧ 1 ≤ k ∧ k ≤ 25 ∧ Hid (kd s = kdF s (25 - k) k) ∧ Below w.heap.size w wr) (fun x _ => 25 - (intOf x).toNat)
  case atStart => exact ⟨1, rfl, by omega, by omega, Lib.hid rfl, Below.refl _ _⟩
  case round =>
    obtain ⟨k, rfl, h1, h2, HK, hB⟩ := hrel
    by_cases hlt : k ≤ 24
    · go_wp2_with fail
      refine (name_any k _).mono ?_
      rintro e w1 ⟨rfl, hb⟩
      have hB1 := hB.trans (hb.mono hB.size)
      clear hb
      by_cases hn : nm k = s
      · have hc := ba_eq hn
        have HN := Lib.hid hn
        clear hn
        go_wp2_with fail
        go_ret
        refine ⟨?_, hB1⟩
        rw [HK.out, show 25 - k = (24 - k) + 1 by omega, kdF, if_pos HN.out]
        rfl
      · have hc := ba_ne hn
        have HN := Lib.hid hn
        clear hn
        go_wp2_with fail
        go_roundw
        case rel => exact ⟨k + 1, by go_num, by omega, by omega, Lib.hid (by rw [HK.out, show 25 - k = (24 - k) + 1 by omega, kdF, if_neg HN.out, show 25 - (k + 1) = 24 - k by omega]), hB1⟩
        case measure => simp [intOf]; omega
    · go_wp2_with fail
      go_ret
      refine ⟨?_, hB⟩
      rw [HK.out, show 25 - k = 0 by omega]
      rfl
theorem pass_no (f : Nat) (k : Int) (h : isK k = false) (w : World) : Calls Tryd.prog 19 #[.int .u32 f, .int .i64 k] w fun e w' => e = .returned (.bool false) ∧ w = w' := by
  have hi := fun x => is_any k x
  rw [h] at hi
  go_enter Tryd.func19, Tryd.ntmps19
  go_wp2_with fail
  refine (hi _).mono ?_
  rintro e w1 ⟨rfl, rfl⟩
  go_wp2_with fail
  go_ret
  exact ⟨rfl, rfl⟩
theorem pass_yes (f : Nat) (hf : f < 4294967296) (k : Nat) (h1 : 1 ≤ k) (h2 : k ≤ 24) (w : World) : Calls Tryd.prog 19 #[.int .u32 f, .int .i64 k] w fun e w' => e = .returned (.bool (decide (k = 24) || decide (f / 2 ^ k % 2 = 1))) ∧ w = w' := by
  have hi := fun x => is_any k x
  rw [show isK k = true by simp [isK]; omega] at hi
  by_cases h24 : k = 24
  · subst h24
    go_enter Tryd.func19, Tryd.ntmps19
    go_wp2_with fail
    refine (hi _).mono ?_
    rintro e w1 ⟨rfl, rfl⟩
    go_wp2_with fail
    go_ret
    exact ⟨rfl, rfl⟩
  · have hk : ((k : Int) == 24) = false := by rw [beq_eq_false_iff_ne]; omega
    go_enter Tryd.func19, Tryd.ntmps19
    go_wp2_with fail
    refine (hi _).mono ?_
    rintro e w1 ⟨rfl, rfl⟩
    go_wp2_with fail
    go_ret
    refine ⟨?_, rfl⟩
    have e : (bits BinOp.and IntKind.u32 ((f : Int) / 2 ^ k) 1 == 1) = (decide (k = 24) || decide (f / 2 ^ k % 2 = 1)) := by
      have e1 : ((f : Int) / 2 ^ k) = ((f / 2 ^ k : Nat) : Int) := by push_cast; rfl
      have e2 := u32_and_nat (f / 2 ^ k) 1 (by have := Nat.div_le_self f (2 ^ k); omega) (by decide)
      rw [show ((1 : Nat) : Int) = 1 from rfl] at e2
      rw [e1, e2, Nat.and_one_is_mod, Bool.eq_iff_iff]
      simp [h24]
      omega
    rw [← e]
    rfl
end Go.Proofs.YtokjkfbbejalhaaDoor
