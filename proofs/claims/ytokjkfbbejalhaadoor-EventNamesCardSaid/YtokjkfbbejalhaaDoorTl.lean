/- Walk of layer 5's law EventNames. Conditions: the library's variables' data. -/
import Derived.Test.YtokjkfbbejalhaaDoorTy
import Derived.Test.YtokjkfbbejalhaaDoorTn
namespace Go.Proofs.YtokjkfbbejalhaaDoor
open Go Go.RowKit
set_option linter.unusedVariables false
set_option linter.unusedSimpArgs false
set_option maxRecDepth 20000
theorem nm_empty {k : Int} (h : isK k = false) : nm k = ⟨#[]⟩ := nm_no h
set_option maxHeartbeats 4000000 in
theorem eventNames_law (k : Int) (s : ByteArray) (W : World) (g : Gl W) (_h : -9223372036854775808 ≤ k ∧ k ≤ 9223372036854775807) (hs : s.size ≤ maxLen) : Calls Tryd.prog 4 #[.int .i64 k, .string s] W fun x W' => x = .returned (.bool true) ∧ Below W.heap.size W W' := by
  unfold maxLen at hs
  have hn := fun x => name_any k x
  have hks := fun x => kind_any s x
  have hkd := kd_le s
  have hsome := @kd_some s
  generalize kd s = K at hks hkd hsome
  have HS := Lib.hid hsome
  clear hsome
  by_cases hk : 1 ≤ k ∧ k ≤ 24
  · obtain ⟨n, rfl⟩ : ∃ n : Nat, k = n := ⟨k.toNat, by omega⟩
    obtain ⟨h1, h2⟩ := hk
    have hkn := fun x => kind_any (nm n) x
    rw [(kd_nm n (by omega) (by omega)).1] at hkn
    have hfull : (nm n).toList.isEmpty = false := nm_full (by simp [isK]; omega)
    have hk25 : (n : Int) < 25 := by omega
    have hk0 : (0 : Int) ≤ n := by omega
    go_enter Tryd.func4, Tryd.ntmps4
    go_wp2_with fail
    refine (rnames_any _).mono ?_
    rintro x w1 ⟨rfl, hN, hB1, hlt⟩
    have cN := hN.cell (k := n) (by omega) (by omega)
    go_wp2_with fail
    refine (awake5_any _ (g.on hB1)).mono ?_
    rintro x w2 ⟨rfl, hk2⟩
    have hB2 := bel_next hB1 hk2
    clear cN hN hB1 hk2 hlt
    by_cases h100 : 100 < s.size
    · have h100I : (100 : Int) < s.size := by omega
      go_wp2_with fail
      refine (awake5_any _ (g.on hB2)).mono ?_
      rintro x w3 ⟨rfl, hk3⟩
      have hB3 := bel_next hB2 hk3
      go_wp2_with fail
      go_ret
      exact ⟨rfl, hB3⟩
    · have h100I : ¬ (100 : Int) < s.size := by omega
      go_wp2_with fail
      refine (hn _).mono ?_
      rintro x w3 ⟨rfl, hk3⟩
      have hB3 := bel_next hB2 hk3
      clear hk3 hB2
      go_wp2_with fail
      refine (hkn _).mono ?_
      rintro x w4 ⟨rfl, hk4⟩
      have hB4 := bel_next hB3 hk4
      clear hk4 hB3
      go_wp2_with fail
      refine (hks _).mono ?_
      rintro x w5 ⟨rfl, hk5⟩
      have hB5 := bel_next hB4 hk5
      clear hk5 hB4
      by_cases h0 : K = 0
      · subst h0
        go_wp2_with fail
        refine (hks _).mono ?_
        rintro x w6 ⟨rfl, hk6⟩
        have hB6 := bel_next hB5 hk6
        go_wp2_with fail
        go_ret
        exact ⟨rfl, hB6⟩
      · have hKI : (0 : Int) ≤ K := by omega
        have hK24 : (K : Int) ≤ 24 := by omega
        have hK25 : (K : Int) < 25 := by omega
        have d0 : ((K : Int) == 0) = false := by rw [beq_eq_false_iff_ne]; omega
        have d1 : ((K : Int) != 0) = true := by rw [bne_iff_ne]; omega
        obtain ⟨q1, q2, q3⟩ := HS.out h0
        have hc := ba_eq q3
        clear q3
        go_wp2_with fail
        refine (rnames_any _).mono ?_
        rintro x w6 ⟨rfl, hN6, hk6, hlt6⟩
        have hB6 := bel_next hB5 hk6
        have cN6 := hN6.cell (k := K) q1 q2
        clear hN6 hk6 hlt6 hB5
        go_wp2_with fail
        go_ret
        exact ⟨rfl, hB6⟩
  · have hnm : nm k = ⟨#[]⟩ := nm_no (by simp [isK]; omega)
    rw [hnm] at hn
    have hkk : k < 1 ∨ (1 ≤ k ∧ ¬ k ≤ 24) := by omega
    clear hnm hk
    rcases hkk with hk | ⟨hk, hk2⟩
    all_goals
      go_enter Tryd.func4, Tryd.ntmps4
      go_wp2_with fail
      refine (awake5_any _ g).mono ?_
      rintro x w2 ⟨rfl, hB2⟩
      by_cases h100 : 100 < s.size
      · have h100I : (100 : Int) < s.size := by omega
        go_wp2_with fail
        refine (awake5_any _ (g.on hB2)).mono ?_
        rintro x w3 ⟨rfl, hk3⟩
        have hB3 := bel_next hB2 hk3
        go_wp2_with fail
        go_ret
        exact ⟨rfl, hB3⟩
      · have h100I : ¬ (100 : Int) < s.size := by omega
        go_wp2_with fail
        refine (hn _).mono ?_
        rintro x w3 ⟨rfl, hk3⟩
        have hB4 := bel_next hB2 hk3
        clear hk3 hB2
        go_wp2_with fail
        refine (hks _).mono ?_
        rintro x w5 ⟨rfl, hk5⟩
        have hB5 := bel_next hB4 hk5
        clear hk5 hB4
        by_cases h0 : K = 0
        · subst h0
          go_wp2_with fail
          refine (hks _).mono ?_
          rintro x w6 ⟨rfl, hk6⟩
          have hB6 := bel_next hB5 hk6
          go_wp2_with fail
          go_ret
          exact ⟨rfl, hB6⟩
        · have hKI : (0 : Int) ≤ K := by omega
          have hK24 : (K : Int) ≤ 24 := by omega
          have hK25 : (K : Int) < 25 := by omega
          have d0 : ((K : Int) == 0) = false := by rw [beq_eq_false_iff_ne]; omega
          have d1 : ((K : Int) != 0) = true := by rw [bne_iff_ne]; omega
          obtain ⟨q1, q2, q3⟩ := HS.out h0
          have hc := ba_eq q3
          clear q3
          go_wp2_with fail
          refine (rnames_any _).mono ?_
          rintro x w6 ⟨rfl, hN6, hk6, hlt6⟩
          have hB6 := bel_next hB5 hk6
          have cN6 := hN6.cell (k := K) q1 q2
          clear hN6 hk6 hlt6 hB5
          go_wp2_with fail
          go_ret
          exact ⟨rfl, hB6⟩
end Go.Proofs.YtokjkfbbejalhaaDoor
