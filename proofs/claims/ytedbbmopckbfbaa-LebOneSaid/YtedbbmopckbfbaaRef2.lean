/- Contracts of the reference of layer 2. -/
import Derived.Test.YtedbbmopckbfbaaLeb
import Derived.Deep.DeepMust
namespace Go.Proofs.Ytedbbmopckbfbaa
open Go.RowKit
set_option maxRecDepth 20000
theorem src_one {w : World} (x : Int) (c : UInt8) (hx : x = c.toNat) : Src (w.alloc (.cells #[.int .u8 x] 5)) (.slice (some ⟨w.heap.size, 0, none⟩) 1 1) 1 (bv [c]) := by
  subst hx
  refine .inr ⟨_, _, rfl, fun j u hj => ?_⟩
  match j, hj with
  | 0, hj => simp [bv] at hj; subst hj; simp [Addr.add]
  | j + 1, hj => simp [bv] at hj
set_option maxHeartbeats 400000 in
theorem rprint_any (n : Nat) (hn : n < U64) (w : World) :
    Calls Try.prog 38 #[.int .u64 n] w fun e w' => e = .returned (.string ⟨(leb 10 n).toArray⟩) ∧ Below w.heap.size w w' := by
  obtain ⟨i0, hi, hz0, hz1, hz2⟩ := info_parts info_u8
  go_enter Try.func38, Try.ntmps38
  go_wp2
  go_loopw [0, 3] (fun x o wr => ∃ (m f : Nat) (pre : List UInt8) (ao : Option Addr) (cap : Nat), 1 ≤ f ∧ m < 128 ^ f ∧ m < U64 ∧ x = .int .u64 m ∧ leb 10 n = pre ++ leb f m ∧ pre.length + f = 10 ∧ o = .slice ao pre.length cap ∧ wr.ownsRow w.heap.size 5 1 (.slice ao pre.length cap) pre.length (bv pre) ∧ Below w.heap.size w wr) (fun x _ _ => (intOf x).toNat)
  case atStart =>
    refine ⟨n, 10, [], some ⟨w.heap.size, 0, none⟩, 0, by omega, u64_pow n hn, hn, rfl, rfl, rfl, rfl, ?_, (Below.refl _ _).alloc (Nat.le_refl _) _⟩
    exact World.ownsRow_lit w #[] 0 (Nat.le_refl _) (by decide) rfl
  case round =>
    obtain ⟨m, f, pre, ao, cap, hf1, hm, hm', rfl, he, hf, rfl, hown, hb⟩ := hrel
    obtain ⟨g, rfl⟩ : ∃ g, f = g + 1 := ⟨f - 1, by omega⟩
    have hl : pre.length ≤ 9 := by omega
    have hsz := hb.size
    have He := Lib.hid he
    have Hf := Lib.hid hf
    have Hm := Lib.hid hm
    have Hm' := Lib.hid hm'
    have Hq := Lib.hid (u64_quo m hm')
    have Hn := Lib.hid hn
    clear he hf hm hm' hn
    by_cases hc : m < 128
    · have hb1 : (m : Int) = ((UInt8.ofNat m).toNat : Int) := congrArg Nat.cast (byte_lo m hc).symm
      have Hb1 := Lib.hid hb1
      clear hb1
      go_wp2_with (at_builtin; go_must (refine list_append rfl (.tmp 16) (.tmp 19) 23 rfl w.heap.size (by simp; omega) 5 i0 (.int .u8 0) 1 1 ul_bytes hi hz0 hz1 hz2 rfl (by decide) (.slice ao pre.length cap) pre.length (bv pre) rfl (hown.alloc _) _ 1 (bv [UInt8.ofNat m]) rfl rfl (src_one _ _ Hb1.out) (bv_one _) (by unfold maxLen; omega) (by omega) ?_); intro ao2 cap2 w1 hown' hg hat; rw [← bv_append] at hown'; have hcv := run_str_own' (P := Try.prog) (src := 23) (dst := 9) hown' (by simp) ul_bytes (by kernel_rfl) ul_string)
      go_ret
      refine ⟨?_, below_append (hb.alloc (by omega) _) (hown.alloc _) hg (by simp; omega)⟩
      rw [He.out, leb_last _ _ hc]
      rfl
    · have hb1 : (m : Int) % 128 + 128 = ((UInt8.ofNat (m % 128 + 128)).toNat : Int) := by rw [byte_hi]; omega
      have Hb1 := Lib.hid hb1
      clear hb1
      go_wp2_with (at_builtin; go_must (refine list_append rfl (.tmp 7) (.tmp 12) 23 rfl w.heap.size (by simp; omega) 5 i0 (.int .u8 0) 1 1 ul_bytes hi hz0 hz1 hz2 rfl (by decide) (.slice ao pre.length cap) pre.length (bv pre) rfl (hown.alloc _) _ 1 (bv [UInt8.ofNat (m % 128 + 128)]) rfl rfl (src_one _ _ Hb1.out) (bv_one _) (by unfold maxLen; omega) (by omega) ?_); intro ao2 cap2 w1 hown' hg hat; rw [← bv_append] at hown')
      have hm8 : 128 ≤ m := by omega
      go_roundw
      case rel =>
        have h1 := pow_succ128 _ _ Hm.out
        have h3 := He.out
        have h4 := Hf.out
        rw [leb_more _ _ hm8] at h3
        have hb2 := below_append (hb.alloc (by omega) _) (hown.alloc _) hg (by simp; omega)
        refine ⟨m / 128, g, pre ++ [UInt8.ofNat (m % 128 + 128)], ao2, cap2, ?_, h1, by have := Hm'.out; unfold U64 at *; omega, by rw [Hq.out]; go_num, by simp [h3], by simp; omega, by simp, by simpa using hown', hb2⟩
        rcases Nat.eq_zero_or_pos g with rfl | hg
        · simp at h1; omega
        · exact hg
      case measure => rw [Hq.out]; simp [intOf]; omega
end Go.Proofs.Ytedbbmopckbfbaa
