/- Contracts of the reference of layer 4. -/
import Derived.Test.YthdenjokedmcfaaSept
namespace Go.Proofs.Ythdenjokedmcfaa
open Go.RowKit
set_option maxRecDepth 20000
theorem ret2_sb {a a' : ByteArray} {b b' : Bool} (h : a = a') (h' : b = b') : Ending.returned (.tuple #[.string a, .bool b]) = .returned (.tuple #[.string a', .bool b']) := by rw [h, h']
theorem pow_div (k c n : Nat) (h : k < c) : n < 128 ^ (c - k) ↔ n / 128 < 128 ^ (c - (k + 1)) := by
  rw [show c - k = (c - (k + 1)) + 1 from by omega, Nat.pow_succ]
  rw [Nat.div_lt_iff_lt_mul (by omega)]
set_option maxHeartbeats 1000000 in
theorem r4print_any (n : Nat) (hn : n < U64) (c : Nat) (hc : c ≤ 10) (w : World) :
    Calls Try.prog 43 #[.int .u64 n, .int .i64 c] w fun e w' => e = .returned (.tuple #[.string ⟨(sep c n).toArray⟩, .bool (decide (n < 128 ^ c))]) ∧ Below w.heap.size w w' := by
  obtain ⟨i0, hi, hz0, hz1, hz2⟩ := info_parts info_u8
  have Hn := Lib.hid hn
  clear hn
  go_enter Try.func43, Try.ntmps43
  go_wp2
  go_loopw [0, 6, 7] (fun x o i wr => ∃ (m k : Nat) (pre : List UInt8) (ao : Option Addr) (cap : Nat), i = .int .i64 k ∧ x = .int .u64 m ∧ o = .slice ao pre.length cap ∧ k ≤ c ∧ m < U64 ∧ pre.length = k ∧ sep c n = pre ++ sep (c - k) m ∧ (n < 128 ^ c ↔ m < 128 ^ (c - k)) ∧ wr.ownsRow w.heap.size 5 1 (.slice ao pre.length cap) pre.length (bv pre) ∧ Below w.heap.size w wr) (fun _ _ i _ => c - (intOf i).toNat)
  case atStart =>
    refine ⟨n, 0, [], some ⟨w.heap.size, 0, none⟩, 0, rfl, rfl, rfl, by omega, Hn.out, rfl, rfl, Iff.rfl, ?_, (Below.refl _ _).alloc (Nat.le_refl _) _⟩
    exact World.ownsRow_lit w #[] 0 (Nat.le_refl _) (by decide) rfl
  case round =>
    obtain ⟨m, k, pre, ao, cap, rfl, rfl, rfl, hk, hm, hp, hs, hiff, hown, hb⟩ := hrel
    have hp10 : pre.length ≤ k := by omega
    have hsz := hb.size
    have Hp := Lib.hid hp
    have Hs := Lib.hid hs
    have Hm := Lib.hid hm
    have Hiff := Lib.hid hiff
    have Hq := Lib.hid (u64_quo m hm)
    clear hp hs hm hiff
    by_cases hlt : k < c
    · have hb1 : (m : Int) % 128 = ((UInt8.ofNat (m % 128)).toNat : Int) := by rw [byte_lo _ (Nat.mod_lt _ (by omega))]; omega
      have Hb1 := Lib.hid hb1
      clear hb1
      go_wp2_with (at_builtin; (refine list_append rfl (.tmp 14) (.tmp 18) 82 rfl w.heap.size (by simp; omega) 5 i0 (.int .u8 0) 1 1 ul_bytes hi hz0 hz1 hz2 rfl (by decide) (.slice ao pre.length cap) pre.length (bv pre) rfl (hown.alloc _) _ 1 (bv [UInt8.ofNat (m % 128)]) rfl rfl (src_one _ _ Hb1.out) (bv_one _) (by unfold maxLen; omega) (by omega) ?_); intro ao2 cap2 w1 hown' hg hat; rw [← bv_append] at hown')
      go_roundw
      case rel =>
        have h3 := Hs.out
        have h4 := Hiff.out
        rw [pow_div k c m hlt] at h4
        rw [show c - k = (c - (k + 1)) + 1 from by omega, sep] at h3
        have hb2 := below_append (hb.alloc (by omega) _) (hown.alloc _) hg (by simp; omega)
        exact ⟨m / 128, k + 1, pre ++ [UInt8.ofNat (m % 128)], ao2, cap2, by go_num, by rw [Hq.out]; go_num, by simp, by omega, by have := Hm.out; unfold U64 at *; omega, by simp [Hp.out], by rw [h3]; simp, h4, by simpa using hown', hb2⟩
      case measure => simp [intOf]; omega
    · have hk' : k = c := by omega
      have Hk := Lib.hid hk'
      have hge : (c : Int) ≤ k := by omega
      clear hk'
      have hcv := run_str_own' (P := Try.prog) (src := 82) (dst := 9) hown rfl ul_bytes (by kernel_rfl) ul_string
      go_wp2
      go_ret2
      refine ⟨?_, hb⟩
      refine ret2_sb ?_ ?_
      · rw [Hs.out, Hk.out]; simp [sep]
      · rw [Bool.eq_iff_iff]
        have h4 := Hiff.out
        rw [Hk.out] at h4
        simp at h4
        simp [h4]
set_option maxHeartbeats 2000000 in
theorem r4get_any {s : ByteArray} {p : Nat} (hp : p ≤ s.size) (hs : s.size ≤ 140737488355328) (count : Int) (w : World) :
    Calls Try.prog 62 #[.string s, .int .i64 p, .int .i64 count] w fun e w' => e = .returned (.tuple #[.int .u64 (sget s p count).1, .int .i64 (sget s p count).2.1, .int .i64 (sget s p count).2.2]) ∧ w = w' := by
  by_cases h1 : count < 1 ∨ 10 < count
  · have e : sget s p count = (0, 1, p) := by simp [sget, h1]
    rw [e]
    rcases h1 with h1 | h1
    · go_enter Try.func62, Try.ntmps62
      go_wp2
      go_ret3
      exact ⟨rfl, rfl⟩
    · have h1' : ¬ count < 1 := by omega
      go_enter Try.func62, Try.ntmps62
      go_wp2
      go_ret3
      exact ⟨rfl, rfl⟩
  · obtain ⟨c, rfl⟩ := Int.eq_ofNat_of_zero_le (show 0 ≤ count by omega)
    have h2 : 1 ≤ c := by omega
    have h3 : c ≤ 10 := by omega
    have h4 : (1 : Int) ≤ c := by omega
    have h5 : (c : Int) ≤ 10 := by omega
    have e : sget s p c = sgo s p c 0 0 := by unfold sget; rw [if_neg h1]; rfl
    rw [e]
    clear e h1
    go_enter Try.func62, Try.ntmps62
    go_wp2
    go_loop [9] (fun i => ∃ k : Nat, i = .int .i64 k ∧ k ≤ c ∧ p + k ≤ s.size ∧ acc8 s p k < 128 ^ k ∧ sgo s p c 0 0 = sgo s p (c - k) k (acc8 s p k)) (fun i => c - (intOf i).toNat)
    case atStart => exact ⟨0, rfl, by omega, by omega, by simp [acc8], rfl⟩
    case round =>
      obtain ⟨k, rfl, hk, hpk, ha, he⟩ := hrel
      have He := Lib.hid he
      have Ha := Lib.hid ha
      clear he ha
      by_cases hc : k < c
      · have hck : c - k = (c - (k + 1)) + 1 := by omega
        have Hck := Lib.hid hck
        clear hck
        by_cases hlt : p + k < s.size
        · obtain ⟨v, hv⟩ : ∃ v : Nat, v = s[p + k].toNat := ⟨_, rfl⟩
          have hvb : v < 256 := by rw [hv]; exact s[p + k].toNat_lt
          have Hbt := Lib.hid (show bt s (p + k) = v by rw [bt_of hlt, hv])
          have Hv := Lib.hid hv
          by_cases hz : 127 < v ∨ (k = 9 ∧ 1 < v)
          · have Hr := Lib.hid (He.out.trans ((by rw [Hck.out]) : sgo s p (c - k) k (acc8 s p k) = sgo s p (c - (k + 1) + 1) k (acc8 s p k)) |>.trans (sgo_bad hlt Hv.out hz))
            have hcase : (127 : Int) < s[p + k].toNat ∨ ((s[p + k].toNat : Int) ≤ 127 ∧ ((k : Int) == 9) = true ∧ (1 : Int) < s[p + k].toNat) := by rw [← hv]; simp; omega
            clear hz hv
            rcases hcase with h6 | ⟨h6, h7, h8⟩
            all_goals go_wp2
            all_goals go_ret3
            all_goals (rw [Hr.out]; exact ⟨rfl, rfl⟩)
          · have Hr := Lib.hid (He.out.trans ((by rw [Hck.out]) : sgo s p (c - k) k (acc8 s p k) = sgo s p (c - (k + 1) + 1) k (acc8 s p k)) |>.trans (sgo_go hlt Hv.out hz))
            have Hf := Lib.hid (sacc_fit (acc8 s p k) v k (by omega) Ha.out hz)
            have h6 : (s[p + k].toNat : Int) ≤ 127 := by rw [← hv]; omega
            have hcase : ((k : Int) == 9) = false ∨ (((k : Int) == 9) = true ∧ (s[p + k].toNat : Int) ≤ 1) := by rw [← hv]; simp; omega
            clear hz hv
            rcases hcase with h7 | ⟨h7, h8⟩
            all_goals go_wp2
            all_goals (
              go_round
              case rel => exact ⟨k + 1, by go_num, by omega, by omega, by rw [acc8, Hbt.out]; exact Hf.out.2, by rw [Hr.out, acc8, Hbt.out]⟩
              case measure => simp [intOf]; omega)
        · have Hr := Lib.hid (He.out.trans ((by rw [Hck.out]) : sgo s p (c - k) k (acc8 s p k) = sgo s p (c - (k + 1) + 1) k (acc8 s p k)) |>.trans (sgo_end hlt))
          go_wp2
          go_ret3
          rw [Hr.out]
          exact ⟨rfl, rfl⟩
      · have hkc : k = c := by omega
        subst hkc
        have Hr := Lib.hid (He.out.trans ((by simp [sgo]) : sgo s p (k - k) k (acc8 s p k) = (acc8 s p k, 0, p + k)))
        have H64 := Lib.hid (show acc8 s p k < U64 by have := sgo_lt s p k 0 0 (by omega) (by simp) (by unfold U64; omega); rw [Hr.out] at this; exact this)
        clear hc
        go_wp2
        go_loop [10, 11] (fun n i => ∃ (j m : Nat) (x : Int), i = .int .i64 x ∧ x = (j : Int) - 1 ∧ n = .int .u64 m ∧ j ≤ k ∧ m * 128 ^ j + acc8 s p j = acc8 s p k) (fun _ i => (intOf i + 1).toNat)
        case atStart => exact ⟨k, 0, _, rfl, by omega, rfl, by omega, by simp⟩
        case round =>
          obtain ⟨j, m, x, rfl, hx, rfl, hj, hh⟩ := hrel
          have Hh := Lib.hid hh
          have Hx := Lib.hid hx
          clear hh hx
          rcases Nat.eq_zero_or_pos j with hj0 | hj0
          · have hx1 : x < 0 := by have := Hx.out; omega
            have Hj := Lib.hid hj0
            clear hj0 hj
            go_wp2
            go_ret3
            refine ⟨?_, rfl⟩
            have h1 := Hh.out
            rw [Hj.out, Nat.pow_zero, Nat.mul_one, acc8] at h1
            rw [Hr.out]
            exact ret3_iii (by rw [← h1]; simp) rfl (by simp)
          · obtain ⟨jj, rfl⟩ : ∃ jj, j = jj + 1 := ⟨j - 1, by omega⟩
            obtain rfl : x = (jj : Int) := by have := Hx.out; omega
            have hlt2 : p + jj < s.size := by omega
            clear Hx
            go_wp2
            go_round
            case rel =>
              have h1 := horner8 s p k jj m Hh.out
              have h2 := horner8_lt s p k jj _ h1
              have h4 := H64.out
              rw [bt_of hlt2] at h1 h2
              refine ⟨jj, _, _, rfl, rfl, congrArg _ (?_ : _ = ((m * 128 + s[p + jj].toNat : Nat) : Int)), by omega, h1⟩
              have h5 := s[p + jj].toNat_lt
              simp only [IntKind.wrap_u64]
              unfold U64 at h4
              omega
            case measure => simp [intOf]
end Go.Proofs.Ythdenjokedmcfaa
