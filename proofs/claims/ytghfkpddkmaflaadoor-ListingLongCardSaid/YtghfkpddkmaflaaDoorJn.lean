/- Contract of the reference's number (layer 11). No condition but those that it names. -/
import Derived.Test.YtghfkpddkmaflaaDoorJl
import Derived.Test.YtghfkpddkmaflaaDoorLj
namespace Go.Proofs.YtghfkpddkmaflaaDoor
open Go Go.RowKit
set_option linter.unusedVariables false
set_option linter.unusedSimpArgs false
set_option maxRecDepth 20000
/-- The register that a word is; -1: none. -/
def rdI (x : List UInt8) : Int := match rdR x with | some n => (n : Int) | none => -1
theorem rdR_of : ∀ n : Nat, n < 8 → rdR (rgL n) = some n := by decide +kernel
theorem rdI_hit {x : List UInt8} {n : Nat} (hn : n < 8) (h : RB n = txB x) : rdI x = n := by
  have : x = rgL n := by
    have := congrArg (fun b => b.data.toList) h
    simpa [RB, txB] using this.symm
  unfold rdI
  rw [this, rdR_of n hn]
theorem rdR_is {x : List UInt8} {n : Nat} (h : rdR x = some n) : n < 8 ∧ x = rgL n := by
  unfold rdR at h
  split at h
  · rename_i a b
    split at h
    · rename_i hc
      obtain ⟨ha, h1, h2⟩ := hc
      obtain rfl : b.toNat - 48 = n := by simpa using h
      refine ⟨by omega, ?_⟩
      have hd : Lib.decDigits (((b.toNat - 48 : Nat) : Int)).toNat = [b] := by
        rw [Int.toNat_natCast, Lib.decDigits_one (by omega)]
        congr 1
        apply UInt8.toNat_inj.1
        rw [UInt8.toNat_ofNat', Nat.mod_eq_of_lt (by omega)]
        omega
      show [a, b] = 114 :: Lib.decDigits (((b.toNat - 48 : Nat) : Int)).toNat
      rw [hd, ha]
    · cases h
  · cases h
theorem rdI_no {x : List UInt8} (h : ∀ n : Nat, n < 8 → RB n ≠ txB x) : rdI x = -1 := by
  unfold rdI
  cases hr : rdR x with
  | none => rfl
  | some n =>
    obtain ⟨h1, h2⟩ := rdR_is hr
    exact absurd (by rw [h2]; rfl) (h n h1)
set_option maxHeartbeats 1000000 in
theorem rnum_any (x : List UInt8) (w : World) : Calls Tryd.prog 40 #[.string (txB x)] w fun e w' => e = .returned (.int .i64 (rdI x)) ∧ Below w.heap.size w w' := by
  have hit := fun (n : Nat) (h : n < 8) => rdI_hit (x := x) (n := n) h
  have no := rdI_no (x := x)
  generalize rdI x = R at hit no ⊢
  generalize txB x = X at hit no ⊢
  have HIT := Lib.hid hit
  have NO := Lib.hid no
  clear hit no
  go_enter Tryd.func40, Tryd.ntmps40
  go_wp2_with fail
  go_loopw [3] (fun y wr => ∃ n : Nat, y = .int .i64 n ∧ n ≤ 8 ∧ Hid (∀ j : Nat, j < n → RB j ≠ X) ∧ Below w.heap.size w wr) (fun y _ => 8 - (intOf y).toNat)
  case atStart => exact ⟨0, rfl, by omega, Lib.hid (fun j hj => absurd hj (Nat.not_lt_zero _)), Below.refl _ _⟩
  case round =>
    obtain ⟨n, rfl, hn, HN, hB⟩ := hrel
    by_cases hlt : n < 8
    · have hr := fun x => rreg_any n (by omega) x
      have hI : (n : Int) < 8 := by omega
      have hh := Lib.hid (HIT.out n hlt)
      by_cases hX : RB n = X
      · have hc := ba_eq hX
        have HQ := Lib.hid (hh.out hX)
        clear hX hh
        go_wp2_with fail
        refine (hr _).mono ?_
        rintro e w1 ⟨rfl, hk⟩
        have hB1 := bel_next hB hk
        go_wp2_with fail
        go_ret
        exact ⟨by rw [HQ.out]; rfl, hB1⟩
      · have hc := ba_ne hX
        have HN2 := Lib.hid (show ∀ j : Nat, j < n + 1 → RB j ≠ X from fun j hj => by
          by_cases e : j = n
          · rw [e]; exact hX
          · exact HN.out j (by omega))
        clear hX hh HN
        go_wp2_with fail
        refine (hr _).mono ?_
        rintro e w1 ⟨rfl, hk⟩
        have hB1 := bel_next hB hk
        go_wp2_with fail
        go_roundw
        case rel => exact ⟨n + 1, by go_num, by omega, HN2, hB1⟩
        case measure => simp [intOf]; omega
    · have HQ := Lib.hid (NO.out (fun j hj => HN.out j (by omega)))
      go_wp2_with fail
      go_ret
      exact ⟨by rw [HQ.out]; rfl, hB⟩
end Go.Proofs.YtghfkpddkmaflaaDoor
