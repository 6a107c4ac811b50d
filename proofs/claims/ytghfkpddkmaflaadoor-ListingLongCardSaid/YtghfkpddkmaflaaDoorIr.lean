/- Contracts of the reference's Has, In (layer 10). No condition but those that each names. -/
import Derived.Test.YtghfkpddkmaflaaDoorIl
namespace Go.Proofs.YtghfkpddkmaflaaDoor
open Go Go.RowKit
set_option linter.unusedVariables false
set_option linter.unusedSimpArgs false
set_option maxRecDepth 20000
/-- The letters of the fields. -/
def hsL (p q r s t : Bool) : List UInt8 := (if p then [65] else []) ++ ((if q then [66] else []) ++ ((if r then [67] else []) ++ ((if s then [68] else []) ++ (if t then [75] else []))))
def hs (o : Int) : ByteArray := ⟨(hsL (uA o) (uB o) (uC o) (uD o) (uK o)).toArray⟩
def inB (s : ByteArray) (c : UInt8) : Bool := s.data.toList.contains c
theorem hs_in (o : Int) : inB (hs o) 65 = uA o ∧ inB (hs o) 66 = uB o ∧ inB (hs o) 67 = uC o ∧ inB (hs o) 68 = uD o ∧ inB (hs o) 75 = uK o := by
  have : ∀ p q r s t : Bool, (hsL p q r s t).contains 65 = p ∧ (hsL p q r s t).contains 66 = q ∧ (hsL p q r s t).contains 67 = r ∧ (hsL p q r s t).contains 68 = s ∧ (hsL p q r s t).contains 75 = t := by decide
  exact this _ _ _ _ _
theorem hs_size (o : Int) : (hs o).size ≤ 5 := by
  have : ∀ p q r s t : Bool, (hsL p q r s t).length ≤ 5 := by decide
  show (hsL _ _ _ _ _).toArray.size ≤ 5
  rw [List.size_toArray]
  exact this _ _ _ _ _
theorem hs_no {o : Int} (h : o < 1 ∨ 34 < o) : hs o = ⟨#[]⟩ := by
  unfold hs uA uB uC uD uK
  rw [us_no h]
  rfl
set_option maxHeartbeats 4000000 in
theorem rhas_any (k : Int) (w : World) : Calls Tryd.prog 27 #[.int .i64 k] w fun e w' => e = .returned (.string (hs k)) ∧ w = w' := by
  by_cases hk : 1 ≤ k ∧ k ≤ 38
  · rcases i_cases hk.1 hk.2 with rfl | rfl | rfl | rfl | rfl | rfl | rfl | rfl | rfl | rfl | rfl | rfl | rfl | rfl | rfl | rfl | rfl | rfl | rfl | rfl | rfl | rfl | rfl | rfl | rfl | rfl | rfl | rfl | rfl | rfl | rfl | rfl | rfl | rfl | rfl | rfl | rfl | rfl
    all_goals
      clear hk
      go_enter Tryd.func27, Tryd.ntmps27
      go_wp2_with fail
      go_ret
      exact ⟨by kernel_rfl, rfl⟩
  · have hu := Lib.hid (hs_no (o := k) (by omega))
    have h1 : (k == 1) = false := ieqb_f (by omega)
    have h2 : (k == 2) = false := ieqb_f (by omega)
    have h3 : (k == 3) = false := ieqb_f (by omega)
    have h4 : (k == 4) = false := ieqb_f (by omega)
    have h5 : (k == 5) = false := ieqb_f (by omega)
    have h6 : (k == 6) = false := ieqb_f (by omega)
    have h7 : (k == 7) = false := ieqb_f (by omega)
    have h8 : (k == 8) = false := ieqb_f (by omega)
    have h9 : (k == 9) = false := ieqb_f (by omega)
    have h10 : (k == 10) = false := ieqb_f (by omega)
    have h11 : (k == 11) = false := ieqb_f (by omega)
    have h12 : (k == 12) = false := ieqb_f (by omega)
    have h13 : (k == 13) = false := ieqb_f (by omega)
    have h14 : (k == 14) = false := ieqb_f (by omega)
    have h15 : (k == 15) = false := ieqb_f (by omega)
    have h16 : (k == 16) = false := ieqb_f (by omega)
    have h17 : (k == 17) = false := ieqb_f (by omega)
    have h18 : (k == 18) = false := ieqb_f (by omega)
    have h19 : (k == 19) = false := ieqb_f (by omega)
    have h20 : (k == 20) = false := ieqb_f (by omega)
    have h21 : (k == 21) = false := ieqb_f (by omega)
    have h22 : (k == 22) = false := ieqb_f (by omega)
    have h23 : (k == 23) = false := ieqb_f (by omega)
    have h24 : (k == 24) = false := ieqb_f (by omega)
    have h25 : (k == 25) = false := ieqb_f (by omega)
    have h26 : (k == 26) = false := ieqb_f (by omega)
    have h27 : (k == 27) = false := ieqb_f (by omega)
    have h28 : (k == 28) = false := ieqb_f (by omega)
    have h29 : (k == 29) = false := ieqb_f (by omega)
    have h30 : (k == 30) = false := ieqb_f (by omega)
    have h31 : (k == 31) = false := ieqb_f (by omega)
    have h32 : (k == 32) = false := ieqb_f (by omega)
    have h33 : (k == 33) = false := ieqb_f (by omega)
    have h34 : (k == 34) = false := ieqb_f (by omega)
    clear hk
    go_enter Tryd.func27, Tryd.ntmps27
    go_wp2_with fail
    go_ret
    exact ⟨by rw [hu.out]; rfl, rfl⟩
set_option maxHeartbeats 1000000 in
theorem rin_any (s : ByteArray) (c : UInt8) (hs : s.size ≤ 1000) (w : World) : Calls Tryd.prog 28 #[.string s, .int .u8 (c.toNat : Int)] w fun e w' => e = .returned (.bool (inB s c)) ∧ w = w' := by
  go_enter Tryd.func28, Tryd.ntmps28
  go_wp2_with fail
  go_loopw [5] (fun x wr => ∃ i : Nat, x = .int .i64 i ∧ i ≤ s.size ∧ Hid (¬ c ∈ s.data.toList.take i) ∧ w = wr) (fun x _ => s.size - (intOf x).toNat)
  case atStart => exact ⟨0, rfl, Nat.zero_le _, Lib.hid (by simp), rfl⟩
  case round =>
    obtain ⟨i, rfl, hi, HN, hB⟩ := hrel
    by_cases hlt : i < s.size
    · have h0i : (0 : Int) ≤ i := by omega
      have hltI : (i : Int) < s.size := by omega
      by_cases hc : s[i] = c
      · have d : ((s[i].toNat : Int) == (c.toNat : Int)) = true := by rw [hc]; simp
        have HC := Lib.hid (show inB s c = true by
          unfold inB
          rw [List.contains_iff_mem, ← hc]
          exact List.getElem_mem (l := s.data.toList) (n := i) (by simpa using hlt))
        clear hc HN
        go_wp2_with fail
        go_ret
        exact ⟨by rw [HC.out]; rfl, hB⟩
      · have d : ((s[i].toNat : Int) == (c.toNat : Int)) = false := by
          rw [beq_eq_false_iff_ne]
          intro e
          exact hc (UInt8.toNat_inj.1 (by omega))
        have HT := Lib.hid (show ¬ c ∈ s.data.toList.take (i + 1) by
          rw [List.take_succ_eq_append_getElem (by simpa using hlt), List.mem_append]
          rintro (h | h)
          · exact HN.out h
          · exact hc (List.mem_singleton.1 h).symm)
        clear hc HN
        go_wp2_with fail
        go_roundw
        case rel => exact ⟨i + 1, by go_num, by omega, HT, hB⟩
        case measure => simp [intOf]; omega
    · have HC := Lib.hid (show inB s c = false by
        unfold inB
        have := HN.out
        rw [List.take_of_length_le (by simp; omega)] at this
        simpa using this)
      clear HN
      go_wp2_with fail
      go_ret
      exact ⟨by rw [HC.out]; rfl, hB⟩
end Go.Proofs.YtghfkpddkmaflaaDoor
