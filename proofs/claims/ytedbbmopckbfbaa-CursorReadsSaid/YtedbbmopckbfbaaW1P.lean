/- The walk of CursorParts. -/
import Derived.Test.YtedbbmopckbfbaaW1
import Derived.Test.YtedbbmopckbfbaaSl
namespace Go.Proofs.Ytedbbmopckbfbaa
open Go.RowKit
set_option maxRecDepth 20000
theorem ba_ext {a b : ByteArray} (h : a.data.toList = b.data.toList) : a = b := by
  cases a; cases b; simp at h; exact congrArg ByteArray.mk h
theorem extract_add (s : ByteArray) (p k : Nat) : s.extract 0 p ++ s.extract p (p + k) = s.extract 0 (p + k) := by
  apply ba_ext
  have h := fun a b => (ByteArray.toList_eq (s.extract a b)).symm.trans (Lib.extract_toList s a b)
  rw [show (s.extract 0 p ++ s.extract p (p + k)).data.toList = (s.extract 0 p).data.toList ++ (s.extract p (p + k)).data.toList from by rw [ByteArray.data_append, Array.toList_append], h, h, h]
  rw [List.drop_zero, Nat.sub_zero, Nat.sub_zero, Nat.add_sub_cancel_left]
  exact List.take_add.symm
theorem tk_parts (s : ByteArray) (p : Nat) (n : Int) (hp : p ≤ s.size) : ∃ (t : ByteArray) (e : Int) (q : Nat), tk s p n = (t, e, q) ∧ q ≤ s.size ∧ s.extract 0 p ++ t = s.extract 0 q ∧ t.size ≤ s.size ∧
    ((e = 0 ∧ (t.size : Int) = n) ∨ (e = 1 ∧ t = ⟨#[]⟩) ∨ (e = 2 ∧ t = ⟨#[]⟩)) := by
  unfold tk
  by_cases h1 : n < 0
  · rw [if_pos h1]
    exact ⟨_, _, _, rfl, hp, by show s.extract 0 p ++ ByteArray.empty = _; simp, Nat.zero_le _, .inr (.inl ⟨rfl, rfl⟩)⟩
  · rw [if_neg h1]
    by_cases h2 : (s.size : Int) - p < n
    · rw [if_pos h2]
      exact ⟨_, _, _, rfl, hp, by show s.extract 0 p ++ ByteArray.empty = _; simp, Nat.zero_le _, .inr (.inr ⟨rfl, rfl⟩)⟩
    · rw [if_neg h2]
      refine ⟨_, _, _, rfl, by omega, extract_add s p n.toNat, by simp; omega, .inl ⟨rfl, ?_⟩⟩
      rw [ByteArray.size_extract]; omega
set_option maxHeartbeats 2000000 in
theorem cursorParts_law (s : ByteArray) (oa : Option Addr) (len cap : Nat) (z : Nat → Int) (w : World) (hs : s.size ≤ maxLen) (hsl : SlArg w oa len cap (fun i => .int .i64 (z i))) (_hr : cap * 8 ≤ 140737488351232) (_hz : ∀ i, i < len → (Lit.int .i64 (z i)).wf = true) (m : Int) (hm : ML w m) :
    Calls Try.prog 16 #[.string s, .slice oa len cap] w fun e w' => e = .returned (.bool true) ∧ Below w.heap.size w w' := by
  unfold maxLen at hs
  have hB := Below.refl w.heap.size w
  by_cases hl : s.size ≤ 2000
  · by_cases hl2 : len ≤ 200
    · have hd : decide ((2000 : Int) < s.size) = false := by simp; omega
      have hd2 : decide ((200 : Int) < len) = false := by simp; omega
      go_enter Try.func16, Try.ntmps16
      go_wp2_with (first | (go_at_call 48; (with_reducible refine (awake1 _ m hm).mono ?_); rintro e w5 ⟨rfl, hk⟩; have hB2 := bel_start hB hk; clear hk hB; have hB := hB2; clear hB2))
      refine (new_any _ _).mono ?_
      rintro e w6 ⟨rfl, rfl⟩
      have hR := isRd_new s w5
      have hsz := hB.size
      have hB2 := hB.alloc hsz (.cells #[.string s, .int .i64 0] 89)
      clear hB
      have hB := hB2
      clear hB2
      obtain ⟨b, hb⟩ : ∃ b, b = w5.heap.size := ⟨_, rfl⟩
      rw [← hb] at hR hsz ⊢
      have Hb := Lib.hid hb
      clear hb
      generalize w5.alloc (.cells #[.string s, .int .i64 0] 89) = w7 at hR hB ⊢
      go_wp2
      go_loopw [6, 30] (fun a x wr => ∃ (p i : Nat), a = .string (s.extract 0 p) ∧ x = .int .i64 i ∧ i ≤ len ∧ p ≤ s.size ∧ IsRd wr b s p ∧ Below w.heap.size w wr) (fun _ x _ => len - (intOf x).toNat)
      case atStart => exact ⟨0, 0, by simp; rfl, rfl, by omega, by omega, hR, hB⟩
      case round =>
        clear hR hB
        obtain ⟨p, i, rfl, rfl, hi, hp, hR, hB⟩ := hrel
        have hx := hB.size
        by_cases hlt : i < len
        · obtain ⟨g, off, rfl, hg, hc⟩ := hsl.below hB (Nat.le_refl _) hlt
          obtain ⟨t, e, q, ht, hq, hat, hts, hcase⟩ := tk_parts s p (z i) hp
          have htk := take_any hR hp (by omega) (z i)
          rw [ht] at htk
          have hlt' : (i : Int) < len := by omega
          have hat2 : (s.extract 0 p).size + t.size ≤ 2000 := by
            have := congrArg ByteArray.size hat
            simp only [ByteArray.size_append, ByteArray.size_extract] at this ⊢
            omega
          have hat1 := Lib.hid hat
          clear hat ht
          rcases hcase with ⟨rfl, hh⟩ | ⟨rfl, rfl⟩ | ⟨rfl, rfl⟩
          · have hh' : ((t.size : Int) == z i) = true := by simp [hh]
            clear hh
            go_wp2_with fail
            refine htk.mono ?_
            rintro e w8 ⟨rfl, hq2⟩
            have hB2 := bel_rd hB hq2 hsz hx
            have hR2 := hq2.1
            clear hq2 hB hR hc
            go_wp2
            go_roundw
            case rel => exact ⟨q, i + 1, by rw [hat1.out], by go_num, by omega, hq, hR2, hB2⟩
            case measure => simp [intOf]; omega
          · go_wp2_with fail
            refine htk.mono ?_
            rintro e w8 ⟨rfl, hq2⟩
            have hB2 := bel_rd hB hq2 hsz hx
            have hR2 := hq2.1
            clear hq2 hB hR hc
            go_wp2
            go_roundw
            case rel => exact ⟨q, i + 1, by rw [← hat1.out], by go_num, by omega, hq, hR2, hB2⟩
            case measure => simp [intOf]; omega
          · go_wp2_with fail
            refine htk.mono ?_
            rintro e w8 ⟨rfl, hq2⟩
            have hB2 := bel_rd hB hq2 hsz hx
            have hR2 := hq2.1
            clear hq2 hB hR hc
            go_wp2
            go_roundw
            case rel => exact ⟨q, i + 1, by rw [← hat1.out], by go_num, by omega, hq, hR2, hB2⟩
            case measure => simp [intOf]; omega
        · obtain rfl : i = len := by omega
          have hw : wrap64 ((s.size : Int) - p) = s.size - p := by unfold wrap64; omega
          have htk := fun (x : World) (h : IsRd x b s p) => take_any h hp (by omega) ((s.size : Int) - p)
          have e1 : tk s p ((s.size : Int) - p) = (s.extract p s.size, 0, s.size) := by
            unfold tk
            rw [if_neg (by omega), if_neg (by omega), show p + ((s.size : Int) - p).toNat = s.size from by omega]
          simp only [e1] at htk
          have hlf := fun (x : World) (h : IsRd x b s s.size) => left_any h (Nat.le_refl _) (by omega)
          simp only [Int.sub_self] at hlf
          have hat : s.extract 0 p ++ s.extract p s.size = s := by
            have := extract_add s p (s.size - p)
            rw [show p + (s.size - p) = s.size from by omega] at this
            rw [this]; simp
          have hat2 : (s.extract 0 p).size + (s.extract p s.size).size ≤ 2000 := by
            have := congrArg ByteArray.size hat
            simp only [ByteArray.size_append, ByteArray.size_extract] at this ⊢
            omega
          clear e1
          go_wp2_with (first | (go_at_call 47; (with_reducible refine (left_any hR hp (by omega)).mono ?_); rintro e w4 ⟨rfl, hn4⟩; have hB2 := bel_ex hB hn4; have hR2 := hR.ex hn4; clear hB hR))
          have hx := hB2.size
          refine (htk _ hR2).mono ?_
          rintro e w8 ⟨rfl, hq2⟩
          have hB := bel_rd hB2 hq2 hsz hx
          have hR := hq2.1
          clear hq2 hB2 hR2
          go_wp2_with (first | (go_at_call 47; (with_reducible refine (hlf _ hR).mono ?_); rintro e w4 ⟨rfl, hn4⟩; have hB2 := bel_ex hB hn4; clear hB hR))
          go_ret
          exact ⟨rfl, hB2⟩
    · have hd : decide ((2000 : Int) < s.size) = false := by simp; omega
      have hd' : (s.size : Int) ≤ 2000 := by omega
      have hd2 : (200 : Int) < len := by omega
      clear hl hl2
      go_enter Try.func16, Try.ntmps16
      go_wp2_with (first | (go_at_call 48; (with_reducible refine (awake1 _ m (hm.below hB (Nat.le_refl _))).mono ?_); rintro e w5 ⟨rfl, hk⟩; have hB2 := bel_start hB hk; clear hk hB; have hB := hB2; clear hB2))
      go_ret
      exact ⟨rfl, hB⟩
  · have hd' : (2000 : Int) < s.size := by omega
    clear hl
    go_enter Try.func16, Try.ntmps16
    go_wp2_with (first | (go_at_call 48; (with_reducible refine (awake1 _ m (hm.below hB (Nat.le_refl _))).mono ?_); rintro e w5 ⟨rfl, hk⟩; have hB2 := bel_start hB hk; clear hk hB; have hB := hB2; clear hB2))
    go_ret
    exact ⟨rfl, hB⟩
end Go.Proofs.Ytedbbmopckbfbaa
