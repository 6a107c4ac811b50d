/- Contracts of package sept and of the reference of layer 4. -/
import Derived.Test.YthdenjokedmcfaaRef2
import Derived.Test.YthdenjokedmcfaaNumS
namespace Go.Proofs.Ythdenjokedmcfaa
open Go.RowKit
set_option maxRecDepth 20000
theorem sfits_any (n : Nat) (hn : n < U64) (count : Int) (w : World) :
    Calls Try.prog 74 #[.int .u64 n, .int .i64 count] w fun e w' => e = .returned (.bool (fitsB n count)) ∧ w = w' := by
  by_cases h1 : 1 ≤ count
  · by_cases h2 : count ≤ 10
    · obtain ⟨c, rfl⟩ := Int.eq_ofNat_of_zero_le (show 0 ≤ count by omega)
      have hb := bl_fits n c hn (by omega)
      have hd : fitsB n c = decide (Lib.bitLen n ≤ 7 * c) := by
        rw [Bool.eq_iff_iff]
        simp [fitsB, hb]
        omega
      have hbl := bl_le n 64 (by omega) (by unfold U64 at hn; omega)
      rw [hd]
      clear hd hb
      go_enter Try.func74, Try.ntmps74
      go_wp2_with (go_at_call 99; refine (Try.bits_Len64 _ _ (by omega) (by unfold U64 at hn; omega)).mono ?_; rintro e w1 ⟨rfl, rfl⟩)
      go_ret
      refine ⟨ret_bool ?_, rfl⟩
      rw [Bool.eq_iff_iff]
      simp
      omega
    · have hd : fitsB n count = false := by simp [fitsB]; omega
      rw [hd]
      have h2' : 10 < count := by omega
      clear hd h2
      go_enter Try.func74, Try.ntmps74
      go_wp2
      go_ret
      exact ⟨rfl, rfl⟩
  · have hd : fitsB n count = false := by simp [fitsB]; omega
    rw [hd]
    have h1' : count < 1 := by omega
    clear hd h1
    go_enter Try.func74, Try.ntmps74
    go_wp2
    go_ret
    exact ⟨rfl, rfl⟩
theorem and127u (m : Nat) (h : m < U64) : bits BinOp.and IntKind.u64 (m : Int) 127 = ((m % 128 : Nat) : Int) := by
  unfold U64 at h
  rw [show (127 : Int) = ((127 : Nat) : Int) from rfl, u64_and_nat _ _ (by omega) (by omega)]
  congr 1
  exact Nat.and_two_pow_sub_one_eq_mod m 7
theorem sput_nil (n c : Value) (w : World) : Calls Try.prog 50 #[.pointer none, n, c] w fun e w' => e = .returned (.int .i64 16) ∧ w = w' := by
  go_enter Try.func50, Try.ntmps50
  go_wp2
  go_ret
  exact ⟨rfl, rfl⟩
set_option maxHeartbeats 1000000 in
theorem sput_any {w : World} {b : Nat} {R : Nat → Prop} {l : List UInt8} (h : IsWr w b R l) (n : Nat) (hn : n < U64) (count : Int) (hlen : l.length + 10 ≤ 140737488355328) :
    Calls Try.prog 50 #[.pointer (some ⟨b, 0, none⟩), .int .u64 n, .int .i64 count] w fun e w' => e = .returned (.int .i64 (sput n count).1) ∧ WrPost w b R (l ++ (sput n count).2) w' := by
  have hfit := fun (x : World) => sfits_any n hn count x
  by_cases h1 : count < 1 ∨ 10 < count
  · have e : sput n count = (1, []) := by simp [sput, h1]
    rw [e]
    rcases h1 with h1 | h1
    · go_enter Try.func50, Try.ntmps50
      go_wp2
      go_ret
      exact ⟨rfl, by simpa using WrPost.start h⟩
    · have h1' : ¬ count < 1 := by omega
      go_enter Try.func50, Try.ntmps50
      go_wp2
      go_ret
      exact ⟨rfl, by simpa using WrPost.start h⟩
  · obtain ⟨c, rfl⟩ := Int.eq_ofNat_of_zero_le (show 0 ≤ count by omega)
    have h2 : 1 ≤ c := by omega
    have h3 : c ≤ 10 := by omega
    have h4 : (1 : Int) ≤ c := by omega
    have h5 : (c : Int) ≤ 10 := by omega
    by_cases hf : n < 128 ^ c
    · have e : sput n c = (0, sep c n) := by simp [sput, h1, hf]
      have hfb : fitsB n c = true := by simp [fitsB, hf]; omega
      rw [e]
      rw [hfb] at hfit
      have Hf := Lib.hid hf
      have Hn := Lib.hid hn
      clear e hfb hf hn h1
      go_enter Try.func50, Try.ntmps50
      go_wp2_with (go_at_call 74; (with_reducible refine (hfit _).mono ?_); rintro e w1 ⟨rfl, rfl⟩)
      go_loopw [1, 23] (fun x i wr => ∃ (m k : Nat) (pre : List UInt8), i = .int .i64 k ∧ x = .int .u64 m ∧ k ≤ c ∧ m < U64 ∧ pre.length = k ∧ sep c n = pre ++ sep (c - k) m ∧ WrPost w b R (l ++ pre) wr) (fun _ i _ => c - (intOf i).toNat)
      case atStart => exact ⟨n, 0, [], rfl, rfl, by omega, Hn.out, rfl, rfl, by simpa using WrPost.start h⟩
      case round =>
        obtain ⟨m, k, pre, rfl, rfl, hk, hm, hp, hs, hw⟩ := hrel
        have Hp := Lib.hid hp
        have hp10 : pre.length ≤ k := by omega
        have Hs := Lib.hid hs
        have Hm := Lib.hid hm
        have Ha := Lib.hid (and127u m hm)
        clear hp hs hm
        by_cases hlt : k < c
        · have hput := put_one hw.1 (bits BinOp.and IntKind.u64 (m : Int) 127) (UInt8.ofNat (m % 128)) (by rw [Ha.out, byte_lo _ (Nat.mod_lt _ (by omega))]) (by simp; omega)
          have hcv : IntKind.u8.wrap (bits BinOp.and IntKind.u64 (m : Int) 127) = bits BinOp.and IntKind.u64 (m : Int) 127 := by
            rw [Ha.out, IntKind.wrap_u8]
            have := Nat.mod_lt m (show 128 > 0 by omega)
            omega
          go_wp2_with (go_at_call 75; (with_reducible refine hput.mono ?_); rintro e w' ⟨rfl, hw'⟩)
          go_roundw
          case rel =>
            have h3 := Hs.out
            rw [show c - k = (c - (k + 1)) + 1 from by omega, sep] at h3
            exact ⟨m / 128, k + 1, pre ++ [UInt8.ofNat (m % 128)], by go_num, by go_num, by omega, by have := Hm.out; unfold U64 at *; omega, by simp [Hp.out], by rw [h3]; simp, by rw [← List.append_assoc]; exact hw.trans hw'⟩
          case measure => simp [intOf]; omega
        · have hk' : k = c := by omega
          have Hk := Lib.hid hk'
          have hge : (c : Int) ≤ k := by omega
          clear hk'
          go_wp2_with fail
          go_ret
          refine ⟨rfl, ?_⟩
          rw [Hs.out, Hk.out]
          simpa [sep] using hw
    · have e : sput n c = (5, []) := by simp [sput, h1, hf]
      have hfb : fitsB n c = false := by simp [fitsB, hf]
      rw [e]
      rw [hfb] at hfit
      clear e hfb hf hn h1
      go_enter Try.func50, Try.ntmps50
      go_wp2_with (go_at_call 74; (with_reducible refine (hfit _).mono ?_); rintro e w1 ⟨rfl, rfl⟩)
      go_ret
      exact ⟨rfl, by simpa using WrPost.start h⟩
theorem ssum_any {w : World} {b : Nat} {R : Nat → Prop} {l : List UInt8} (h : IsWr w b R l) (n : Nat) (hn : n < 4294967296) (hlen : l.length + 10 ≤ 140737488355328) :
    Calls Try.prog 51 #[.pointer (some ⟨b, 0, none⟩), .int .u32 n] w fun e w' => e = .returned (.tuple #[]) ∧ WrPost w b R (l ++ sep 5 n) w' := by
  have e : sput n 5 = (0, sep 5 n) := by
    have h1 : ¬ ((5 : Int) < 1 ∨ 10 < (5 : Int)) := by omega
    have h2 : n < 128 ^ (5 : Int).toNat := by show n < 128 ^ 5; omega
    unfold sput; rw [if_neg h1, if_pos h2]; rfl
  have hp := sput_any h n (by unfold U64; omega) 5 hlen
  rw [e] at hp
  have hw : IntKind.u64.wrap (n : Int) = n := by rw [IntKind.wrap_u64]; omega
  clear e
  go_enter Try.func51, Try.ntmps51
  go_wp2_with (go_at_call 50; (with_reducible refine hp.mono ?_); rintro e w1 ⟨rfl, hq⟩)
  go_end0
  exact ⟨rfl, hq⟩
theorem ssum_nil (n : Value) (x : Int) (hn : n = .int .u32 x) (w : World) : Calls Try.prog 51 #[.pointer none, n] w fun e w' => e = .returned (.tuple #[]) ∧ w = w' := by
  subst hn
  go_enter Try.func51, Try.ntmps51
  go_wp2_with (go_at_call 50; refine (sput_nil _ _ _).mono ?_; rintro e w1 ⟨rfl, rfl⟩)
  go_end0
  exact ⟨rfl, rfl⟩
theorem sget_nil (c : Value) (w : World) : Calls Try.prog 79 #[.pointer none, c] w fun e w' => e = .returned (.tuple #[.int .u64 0, .int .i64 16]) ∧ w = w' := by
  go_enter Try.func79, Try.ntmps79
  go_wp2
  go_ret2
  exact ⟨rfl, rfl⟩
set_option maxHeartbeats 2000000 in
theorem sget_any {w : World} {b : Nat} {s : ByteArray} {p : Nat} (h : IsRd w b s p) (hp : p ≤ s.size) (hs : s.size ≤ 140737488355328) (count : Int) :
    Calls Try.prog 79 #[.pointer (some ⟨b, 0, none⟩), .int .i64 count] w fun e w' => e = .returned (.tuple #[.int .u64 (sget s p count).1, .int .i64 (sget s p count).2.1]) ∧ RdPost w b s (sget s p count).2.2 w' := by
  by_cases h1 : count < 1 ∨ 10 < count
  · have e : sget s p count = (0, 1, p) := by simp [sget, h1]
    rw [e]
    rcases h1 with h1 | h1
    · go_enter Try.func79, Try.ntmps79
      go_wp2
      go_ret2
      exact ⟨rfl, rd_drewN h 0⟩
    · have h1' : ¬ count < 1 := by omega
      go_enter Try.func79, Try.ntmps79
      go_wp2
      go_ret2
      exact ⟨rfl, rd_drewN h 0⟩
  · obtain ⟨c, rfl⟩ := Int.eq_ofNat_of_zero_le (show 0 ≤ count by omega)
    have h2 : 1 ≤ c := by omega
    have h3 : c ≤ 10 := by omega
    have h4 : (1 : Int) ≤ c := by omega
    have h5 : (c : Int) ≤ 10 := by omega
    have e : sget s p c = sgo s p c 0 0 := by unfold sget; rw [if_neg h1]; rfl
    rw [e]
    clear e h1
    go_enter Try.func79, Try.ntmps79
    go_wp2_with (go_at_call 60; (with_reducible refine (at_any h).mono ?_); rintro e w1 ⟨rfl, j, rfl⟩)
    go_loopw [7, 24] (fun x i wr => ∃ (acc k : Nat), i = .int .i64 k ∧ x = .int .u64 acc ∧ k ≤ c ∧ acc < 128 ^ k ∧ p + k ≤ s.size ∧ sgo s p c 0 0 = sgo s p (c - k) k acc ∧ RdPost w b s (p + k) wr) (fun _ i _ => c - (intOf i).toNat)
    case atStart => exact ⟨0, 0, rfl, rfl, by omega, by omega, by omega, rfl, rd_drewN h j⟩
    case round =>
      obtain ⟨acc, k, rfl, rfl, hk, ha, hpk, he, hw⟩ := hrel
      have He := Lib.hid he
      have Ha := Lib.hid ha
      clear he ha
      have hby := byte_any hw.1 hpk hs
      by_cases hc : k < c
      · have hck : c - k = (c - (k + 1)) + 1 := by omega
        by_cases hlt : p + k < s.size
        · have e2 : by1 s (p + k) = ((s[p + k].toNat : Int), 0, p + k + 1) := by simp [by1, hlt]
          rw [e2] at hby
          simp only at hby
          clear e2
          obtain ⟨v, hv⟩ : ∃ v : Nat, v = s[p + k].toNat := ⟨_, rfl⟩
          have hvb : v < 256 := by rw [hv]; exact s[p + k].toNat_lt
          rw [← hv] at hby
          have Hv := Lib.hid hv
          have Hck := Lib.hid hck
          clear hv hck
          by_cases hz : 127 < v ∨ (k = 9 ∧ 1 < v)
          · have Hr := Lib.hid (He.out.trans ((by rw [Hck.out]) : sgo s p (c - k) k acc = sgo s p (c - (k + 1) + 1) k acc) |>.trans (sgo_bad hlt Hv.out hz))
            have hcase : (127 : Int) < v ∨ ((v : Int) ≤ 127 ∧ ((k : Int) == 9) = true ∧ (1 : Int) < v) := by simp; omega
            clear hz
            rcases hcase with h6 | ⟨h6, h7, h8⟩
            all_goals go_wp2_with (first | (go_at_call 100; (with_reducible refine hby.mono ?_); rintro e w' ⟨rfl, hw'⟩; have hR := hw'.1) | (go_at_call 55; (with_reducible refine (seek_any hR _).mono ?_); rintro e w3 ⟨rfl, hq4⟩))
            all_goals go_ret2
            all_goals rw [sk_ok s _ p hp] at hq4
            all_goals rw [Hr.out]
            all_goals exact ⟨rfl, rd_trans (rd_trans hw hw') hq4⟩
          · have Hr := Lib.hid (He.out.trans ((by rw [Hck.out]) : sgo s p (c - k) k acc = sgo s p (c - (k + 1) + 1) k acc) |>.trans (sgo_go hlt Hv.out hz))
            have Hb := Lib.hid (sacc_bits acc v k (by omega) Ha.out hz)
            have Hf := Lib.hid (sacc_fit acc v k (by omega) Ha.out hz)
            have h6 : (v : Int) ≤ 127 := by omega
            have hcase : ((k : Int) == 9) = false ∨ (((k : Int) == 9) = true ∧ (v : Int) ≤ 1) := by simp; omega
            clear hz
            rcases hcase with h7 | ⟨h7, h8⟩
            all_goals go_wp2_with (go_at_call 100; (with_reducible refine hby.mono ?_); rintro e w' ⟨rfl, hw'⟩)
            all_goals (
              go_roundw
              case rel => exact ⟨acc + v * 128 ^ k, k + 1, by go_num, congrArg _ Hb.out, by omega, Hf.out.2, by omega, Hr.out, rd_trans hw hw'⟩
              case measure => simp [intOf]; omega)
        · have e2 : by1 s (p + k) = (0, 2, p + k) := by simp [by1, hlt]
          rw [e2] at hby
          simp only at hby
          clear e2
          have Hr := Lib.hid (He.out.trans ((by rw [hck]) : sgo s p (c - k) k acc = sgo s p (c - (k + 1) + 1) k acc) |>.trans (sgo_end hlt))
          clear hck
          go_wp2_with (first | (go_at_call 100; (with_reducible refine hby.mono ?_); rintro e w' ⟨rfl, hw'⟩; have hR := hw'.1) | (go_at_call 55; (with_reducible refine (seek_any hR _).mono ?_); rintro e w3 ⟨rfl, hq4⟩))
          go_ret2
          rw [sk_ok s _ p hp] at hq4
          rw [Hr.out]
          exact ⟨rfl, rd_trans (rd_trans hw hw') hq4⟩
      · have hkc : k = c := by omega
        have Hkc := Lib.hid hkc
        have hge : (c : Int) ≤ k := by omega
        have Hr := Lib.hid (He.out.trans ((by rw [hkc]; simp [sgo]) : sgo s p (c - k) k acc = (acc, 0, p + k)))
        clear hkc
        go_wp2_with fail
        go_ret2
        rw [Hr.out]
        exact ⟨rfl, hw⟩
end Go.Proofs.Ythdenjokedmcfaa
