/- Contracts of the reference of layer 2. -/
import Derived.Test.YthdenjokedmcfaaLeb
import Derived.Deep.DeepMust
namespace Go.Proofs.Ythdenjokedmcfaa
open Go.RowKit
set_option maxRecDepth 20000
theorem src_one {w : World} (x : Int) (c : UInt8) (hx : x = c.toNat) : Src (w.alloc (.cells #[.int .u8 x] 5)) (.slice (some ⟨w.heap.size, 0, none⟩) 1 1) 1 (bv [c]) := by
  subst hx
  refine .inr ⟨_, _, rfl, fun j u hj => ?_⟩
  match j, hj with
  | 0, hj => simp [bv] at hj; subst hj; simp [Addr.add]
  | j + 1, hj => simp [bv] at hj
set_option maxHeartbeats 400000 in
theorem rprint_any (n : Nat) (hn : n < U64) (w : World) :
    Calls Try.prog 92 #[.int .u64 n] w fun e w' => e = .returned (.string ⟨(leb 10 n).toArray⟩) ∧ Below w.heap.size w w' := by
  obtain ⟨i0, hi, hz0, hz1, hz2⟩ := info_parts info_u8
  go_enter Try.func92, Try.ntmps92
  go_wp2
  go_loopw [0, 3] (fun x o wr => ∃ (m f : Nat) (pre : List UInt8) (ao : Option Addr) (cap : Nat), 1 ≤ f ∧ m < 128 ^ f ∧ m < U64 ∧ x = .int .u64 m ∧ leb 10 n = pre ++ leb f m ∧ pre.length + f = 10 ∧ o = .slice ao pre.length cap ∧ wr.ownsRow w.heap.size 5 1 (.slice ao pre.length cap) pre.length (bv pre) ∧ Below w.heap.size w wr) (fun x _ _ => (intOf x).toNat)
  case atStart =>
    refine ⟨n, 10, [], some ⟨w.heap.size, 0, none⟩, 0, by omega, u64_pow n hn, hn, rfl, rfl, rfl, rfl, ?_, (Below.refl _ _).alloc (Nat.le_refl _) _⟩
    exact World.ownsRow_lit w #[] 0 (Nat.le_refl _) (by decide) rfl
  case round =>
    obtain ⟨m, f, pre, ao, cap, hf1, hm, hm', rfl, he, hf, rfl, hown, hb⟩ := hrel
    obtain ⟨g, rfl⟩ : ∃ g, f = g + 1 := ⟨f - 1, by omega⟩
    have hl : pre.length ≤ 9 := by omega
    have hsz := hb.size
    have He := Lib.hid he
    have Hf := Lib.hid hf
    have Hm := Lib.hid hm
    have Hm' := Lib.hid hm'
    have Hq := Lib.hid (u64_quo m hm')
    have Hn := Lib.hid hn
    clear he hf hm hm' hn
    by_cases hc : m < 128
    · have hb1 : (m : Int) = ((UInt8.ofNat m).toNat : Int) := congrArg Nat.cast (byte_lo m hc).symm
      have Hb1 := Lib.hid hb1
      clear hb1
      go_wp2_with (at_builtin; go_must (refine list_append rfl (.tmp 16) (.tmp 19) 82 rfl w.heap.size (by simp; omega) 5 i0 (.int .u8 0) 1 1 ul_bytes hi hz0 hz1 hz2 rfl (by decide) (.slice ao pre.length cap) pre.length (bv pre) rfl (hown.alloc _) _ 1 (bv [UInt8.ofNat m]) rfl rfl (src_one _ _ Hb1.out) (bv_one _) (by unfold maxLen; omega) (by omega) ?_); intro ao2 cap2 w1 hown' hg hat; rw [← bv_append] at hown'; have hcv := run_str_own' (P := Try.prog) (src := 82) (dst := 9) hown' (by simp) ul_bytes (by kernel_rfl) ul_string)
      go_ret
      refine ⟨?_, below_append (hb.alloc (by omega) _) (hown.alloc _) hg (by simp; omega)⟩
      rw [He.out, leb_last _ _ hc]
      rfl
    · have hb1 : (m : Int) % 128 + 128 = ((UInt8.ofNat (m % 128 + 128)).toNat : Int) := by rw [byte_hi]; omega
      have Hb1 := Lib.hid hb1
      clear hb1
      go_wp2_with (at_builtin; go_must (refine list_append rfl (.tmp 7) (.tmp 12) 82 rfl w.heap.size (by simp; omega) 5 i0 (.int .u8 0) 1 1 ul_bytes hi hz0 hz1 hz2 rfl (by decide) (.slice ao pre.length cap) pre.length (bv pre) rfl (hown.alloc _) _ 1 (bv [UInt8.ofNat (m % 128 + 128)]) rfl rfl (src_one _ _ Hb1.out) (bv_one _) (by unfold maxLen; omega) (by omega) ?_); intro ao2 cap2 w1 hown' hg hat; rw [← bv_append] at hown')
      have hm8 : 128 ≤ m := by omega
      go_roundw
      case rel =>
        have h1 := pow_succ128 _ _ Hm.out
        have h3 := He.out
        have h4 := Hf.out
        rw [leb_more _ _ hm8] at h3
        have hb2 := below_append (hb.alloc (by omega) _) (hown.alloc _) hg (by simp; omega)
        refine ⟨m / 128, g, pre ++ [UInt8.ofNat (m % 128 + 128)], ao2, cap2, ?_, h1, by have := Hm'.out; unfold U64 at *; omega, by rw [Hq.out]; go_num, by simp [h3], by simp; omega, by simp, by simpa using hown', hb2⟩
        rcases Nat.eq_zero_or_pos g with rfl | hg
        · simp at h1; omega
        · exact hg
      case measure => rw [Hq.out]; simp [intOf]; omega

theorem ret3_iii {k k' k'' : IntKind} {a a' b b' c c' : Int} (h : a = a') (h' : b = b') (h'' : c = c') : Ending.returned (.tuple #[.int k a, .int k' b, .int k'' c]) = .returned (.tuple #[.int k a', .int k' b', .int k'' c']) := by rw [h, h', h'']
set_option maxHeartbeats 1000000 in
theorem rget_any {s : ByteArray} {p : Nat} (hp : p ≤ s.size) (hs : s.size ≤ 140737488355328) (w : World) :
    Calls Try.prog 104 #[.string s, .int .i64 p] w fun e w' => e = .returned (.tuple #[.int .u64 (lget s p).1, .int .i64 (lget s p).2.1, .int .i64 (lget s p).2.2]) ∧ w = w' := by
  go_enter Try.func104, Try.ntmps104
  go_wp2
  go_loop [7] (fun k => ∃ kk : Nat, kk ≤ 10 ∧ k = .int .i64 kk ∧ p + kk ≤ s.size ∧ lget s p = lgo s p (10 - kk) kk (acc7 s p kk)) (fun k => 10 - (intOf k).toNat)
  case atStart => exact ⟨0, by omega, rfl, by omega, rfl⟩
  case round =>
    obtain ⟨kk, hkk, rfl, hpk, he⟩ := hrel
    have He := Lib.hid he
    clear he
    by_cases hc : kk < 10
    · by_cases hlt : p + kk < s.size
      · obtain ⟨c, hc'⟩ : ∃ c : Nat, c = s[p + kk].toNat := ⟨_, rfl⟩
        have hcb : c < 256 := by rw [hc']; exact s[p + kk].toNat_lt
        have Hbt := Lib.hid (show bt s (p + kk) = c by rw [bt_of hlt, hc'])
        have Hc := Lib.hid hc'
        by_cases hz : (c = 0 ∧ 0 < kk) ∨ (1 < c ∧ kk = 9)
        · have Hr := Lib.hid (He.out.trans (lgo_bad hc hlt hc' hz))
          have Hz := Lib.hid hz
          by_cases h1 : c = 0
          · have hd1 : ((s[p + kk].toNat : Int) == 0) = true := by rw [← hc']; simp; omega
            have hk0 : 0 < kk := by omega
            clear hc' hz h1
            go_wp2
            all_goals go_ret3
            all_goals exact ⟨by rw [Hr.out]; rfl, rfl⟩
          · have hd1 : ((s[p + kk].toNat : Int) == 0) = false := by rw [← hc']; simp; omega
            have hd2 : ((kk : Int) == 9) = true := by simp; omega
            have hc1 : (1 : Int) < s[p + kk].toNat := by rw [← hc']; omega
            clear hc' hz h1
            go_wp2
            all_goals go_ret3
            all_goals exact ⟨by rw [Hr.out]; rfl, rfl⟩
        · by_cases hl : c < 128
          · have Hr := Lib.hid (He.out.trans (lgo_last hc hlt hc' hz hl))
            have Hz := Lib.hid hz
            have hl' : (s[p + kk].toNat : Int) < 128 := by rw [← hc']; omega
            have hcase : (((s[p + kk].toNat : Int) == 0) = true ∧ decide (0 < kk) = false) ∨ (((s[p + kk].toNat : Int) == 0) = false ∧ (s[p + kk].toNat : Int) ≤ 1) ∨ (((s[p + kk].toNat : Int) == 0) = false ∧ ((kk : Int) == 9) = false) := by
              rw [← hc']; simp; omega
            clear hc' hz hl
            rcases hcase with ⟨hd1, hd2⟩ | ⟨hd1, hd2⟩ | ⟨hd1, hd2⟩
            all_goals go_wp2
            all_goals (
              clear hd1 hd2 hl'
              go_loop [9, 10] (fun n i => ∃ (j m : Nat) (x : Int), i = .int .i64 x ∧ x = (j : Int) - 1 ∧ n = .int .u64 m ∧ j ≤ kk + 1 ∧ m * 128 ^ j + acc7 s p j = acc7 s p (kk + 1)) (fun _ i => (intOf i + 1).toNat)
              case atStart => exact ⟨kk + 1, 0, _, rfl, by omega, rfl, by omega, by simp⟩
              case round =>
                obtain ⟨j, m, x, rfl, hx, rfl, hj, hh⟩ := hrel
                have Hh := Lib.hid hh
                have Hx := Lib.hid hx
                clear hh hx
                rcases Nat.eq_zero_or_pos j with hj0 | hj0
                · have hx1 : x < 0 := by have := Hx.out; omega
                  have Hj := Lib.hid hj0
                  clear hj0 hj
                  go_wp2
                  go_ret3
                  refine ⟨?_, rfl⟩
                  have h1 := Hh.out
                  rw [Hj.out, Nat.pow_zero, Nat.mul_one, acc7, acc7, Hbt.out] at h1
                  rw [Hr.out]
                  exact ret3_iii (by rw [← h1]; simp) rfl (by simp)
                · obtain ⟨jj, rfl⟩ : ∃ jj, j = jj + 1 := ⟨j - 1, by omega⟩
                  obtain rfl : x = (jj : Int) := by have := Hx.out; omega
                  have hlt2 : p + jj < s.size := by omega
                  clear Hx
                  go_wp2
                  go_round
                  case rel =>
                    have h1 := horner s p kk jj m Hh.out
                    have h2 := horner_lt s p kk jj _ h1
                    have h3 := acc_fit (acc7 s p kk) c kk hc (acc7_lt s p kk) (fun h => Hz.out (.inr h))
                    have h4 : acc7 s p (kk + 1) < U64 := by rw [acc7, Hbt.out]; exact h3.1
                    rw [bt_of hlt2] at h1 h2
                    exact ⟨jj, _, _, rfl, rfl, congrArg _ (wrap_horner m _ (by omega)), by omega, h1⟩
                  case measure => simp [intOf])
          · have Hr := Lib.hid (He.out.trans (lgo_go hc hlt hc' hz hl))
            have hd1 : ((s[p + kk].toNat : Int) == 0) = false := by rw [← hc']; simp; omega
            have hd2 : ((kk : Int) == 9) = false := by simp; omega
            have hd3 : (128 : Int) ≤ s[p + kk].toNat := by rw [← hc']; omega
            clear hc' hz
            go_wp2
            go_round
            case rel => exact ⟨kk + 1, by omega, by go_num, by omega, by rw [Hr.out, acc7, Hbt.out]⟩
            case measure => simp [intOf]; omega
      · have Hr := Lib.hid (He.out.trans (lgo_end hc hlt))
        go_wp2
        go_ret3
        exact ⟨by rw [Hr.out]; rfl, rfl⟩
    · obtain rfl : kk = 10 := by omega
      have Hr := Lib.hid (He.out.trans lgo_out)
      go_wp2
      go_ret3
      exact ⟨by rw [Hr.out]; rfl, rfl⟩

theorem rmost_any {s : ByteArray} {p : Nat} (hp : p ≤ s.size) (hs : s.size ≤ 140737488355328) (m : Nat) (w : World) :
    Calls Try.prog 82 #[.string s, .int .i64 p, .int .u64 m] w fun e w' => e = .returned (.tuple #[.int .u64 (lmost s p m).1, .int .i64 (lmost s p m).2.1, .int .i64 (lmost s p m).2.2]) ∧ w = w' := by
  have hg := fun (x : World) => rget_any hp hs x
  unfold lmost
  generalize lget s p = r at hg ⊢
  obtain ⟨v, er, nx⟩ := r
  simp only at hg ⊢
  by_cases he : er = 0
  · have hd : ((er : Int) == 0) = true := by simp [he]
    by_cases hm : m < v
    · rw [if_pos ⟨he, hm⟩]
      have hm' : (m : Int) < v := by omega
      clear he
      go_enter Try.func82, Try.ntmps82
      go_wp2_with (go_at_call 104; refine (hg _).mono ?_; rintro e w2 ⟨rfl, rfl⟩)
      go_ret3
      exact ⟨rfl, rfl⟩
    · rw [if_neg (by omega)]
      have hm' : (v : Int) ≤ m := by omega
      clear hm
      have He := Lib.hid he
      clear he
      go_enter Try.func82, Try.ntmps82
      go_wp2_with (go_at_call 104; refine (hg _).mono ?_; rintro e w2 ⟨rfl, rfl⟩)
      go_ret3
      exact ⟨rfl, rfl⟩
  · have hd : ((er : Int) == 0) = false := by simp [he]
    rw [if_neg (by omega)]
    clear he
    go_enter Try.func82, Try.ntmps82
    go_wp2_with (go_at_call 104; refine (hg _).mono ?_; rintro e w2 ⟨rfl, rfl⟩)
    go_ret3
    exact ⟨rfl, rfl⟩
end Go.Proofs.Ythdenjokedmcfaa
