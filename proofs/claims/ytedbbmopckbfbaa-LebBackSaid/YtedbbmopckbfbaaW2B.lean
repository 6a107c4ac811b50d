/- More walks of layer 2's statements. -/
import Derived.Test.YtedbbmopckbfbaaW2
import Derived.Test.YtedbbmopckbfbaaNumB
namespace Go.Proofs.Ytedbbmopckbfbaa
open Go.RowKit
set_option maxRecDepth 20000
set_option maxHeartbeats 2000000 in
theorem lebBack_law (n i : Int) (t : ByteArray) (w : World) (hn : (Lit.int .u64 n).wf = true) (hi : (Lit.int .i64 i).wf = true) (ht : t.size ≤ maxLen) : Calls Try.prog 14 #[.int .u64 n, .int .i64 i, .string t] w fun e w' => e = .returned (.bool true) ∧ Below w.heap.size w w' := by
  obtain ⟨n, rfl, hn1⟩ := u64_of hn
  obtain ⟨h0, h1⟩ := i64_of hi
  have H0 := Lib.hid (And.intro h0 h1)
  have Hn := Lib.hid hn1
  have Hf := Lib.hid (fold_lt i h0 h1)
  unfold maxLen at ht
  clear hn hi hn1 h0 h1
  have hB := Below.refl w.heap.size w
  by_cases hl : t.size ≤ 200
  · have hd : decide ((200 : Int) < t.size) = false := by simp; omega
    go_enter Try.func14, Try.ntmps14
    go_wp2_with (first | (go_at_call 23; (with_reducible refine (awake2 _).mono ?_); rintro e w5 ⟨rfl, hk⟩; have hB2 := bel_start hB hk; clear hk hB; have hB := hB2; clear hB2))
    have hsz := hB.size
    refine (lput_any (IsWr.fresh w5) n Hn.out (by decide)).mono ?_
    rintro e w6 ⟨rfl, hw⟩
    have hW := hw.1
    have hx := hw.2.size
    rw [World.size_alloc] at hx
    have hB2 := bel_start hB (kept_wrNew hw (fun _ h => h.elim))
    clear hB hw
    have hB := hB2
    clear hB2
    have l1 := leb_len_le 10 n
    have l2 := leb_len_le 10 (foldV i)
    have Ll := Lib.hid (leb10_len n Hn.out)
    go_wp2_with fail
    refine (lputInt_any hW i H0.out.1 H0.out.2 (by simp; omega)).mono ?_
    rintro e w7 ⟨rfl, hw⟩
    have hW2 := hw.1
    have hB2 := bel_wr hB hw hsz (fun k hk => by simp at hk; omega) (by omega)
    have hx2 := hw.2.size
    clear hB hW hw
    go_wp2_with fail
    refine (text_any hW2 t (by simp; omega)).mono ?_
    rintro e w8 ⟨rfl, hw⟩
    have hW := hw.1
    have hB := bel_wr hB2 hw hsz (fun k hk => by simp at hk; omega) (by omega)
    have hx3 := hw.2.size
    clear hB2 hW2 hw
    obtain ⟨L, hL⟩ : ∃ L, L = [] ++ leb 10 n ++ leb 10 (foldV i) ++ t.data.toList := ⟨_, rfl⟩
    have hsz2 : (⟨L.toArray⟩ : ByteArray).size = (leb 10 n).length + (leb 10 (foldV i)).length + t.size := by
      subst hL
      show (List.toArray _).size = _
      simp; omega
    have g1 : lget ⟨L.toArray⟩ 0 = (n, 0, (leb 10 n).length) := by
      simpa using lget_back ⟨L.toArray⟩ n [] (leb 10 (foldV i) ++ t.data.toList) Hn.out (by subst hL; simp)
    have g2 : lget ⟨L.toArray⟩ (leb 10 n).length = (foldV i, 0, (leb 10 n).length + (leb 10 (foldV i)).length) := by
      simpa using lget_back ⟨L.toArray⟩ (foldV i) (leb 10 n) t.data.toList Hf.out (by subst hL; simp)
    rw [← hL] at hW
    have Hsz2 := Lib.hid hsz2
    have hget := fun (x : World) (b : Nat) (h : IsRd x b ⟨L.toArray⟩ 0) => lget_any h (Nat.zero_le _) (by rw [hsz2]; omega)
    have hgetI := fun (x : World) (b : Nat) (h : IsRd x b ⟨L.toArray⟩ (leb 10 n).length) => lgetInt_any h (by rw [hsz2]; omega) (by rw [hsz2]; omega)
    have hleft := fun (x : World) (b : Nat) (h : IsRd x b ⟨L.toArray⟩ ((leb 10 n).length + (leb 10 (foldV i)).length)) => left_any h (by rw [hsz2]; omega) (by rw [hsz2]; omega)
    simp only [g1] at hget
    simp only [g2, unfold_fold] at hgetI
    have Hlen := Lib.hid (show (((⟨L.toArray⟩ : ByteArray).size : Int) - ((leb 10 n).length + (leb 10 (foldV i)).length : Nat)) = t.size by rw [hsz2]; omega)
    rw [Hlen.out] at hleft
    clear g1 g2 hsz2 hL
    go_wp2_with (go_at_call 22; (with_reducible refine (string_any hW).mono ?_); rintro e w4 ⟨rfl, n4, rfl⟩; have hB2 := below_drewN hB n4; clear hB hW; have hB := hB2; clear hB2)
    refine (new_any _ _).mono ?_
    rintro e w10 ⟨rfl, rfl⟩
    have hR := isRd_new ⟨L.toArray⟩ (w8.drewN n4)
    have hB2 := hB.alloc hB.size (.cells #[.string ⟨L.toArray⟩, .int .i64 0] 89)
    have hy : w.heap.size ≤ (w8.drewN n4).heap.size := hB.size
    clear hB
    obtain ⟨b, hb⟩ : ∃ b, b = (w8.drewN n4).heap.size := ⟨_, rfl⟩
    rw [← hb] at hR hy ⊢
    have Hb := Lib.hid hb
    clear hb
    have hB := hB2
    clear hB2
    generalize (w8.drewN n4).alloc (.cells #[.string ⟨L.toArray⟩, .int .i64 0] 89) = w11 at hR hB ⊢
    have hx := hB.size
    go_wp2_with (first | (go_at_call 40; (with_reducible refine (hget _ _ hR).mono ?_); rintro e w8 ⟨rfl, hq⟩; have hB2 := bel_rd hB hq hy hx; have hR2 := hq.1; clear hq hB hR; have hB := hB2; have hR := hR2; clear hB2 hR2; have hx := hB.size) | (go_at_call 46; (with_reducible refine (hgetI _ _ hR).mono ?_); rintro e w8 ⟨rfl, hq⟩; have hB2 := bel_rd hB hq hy hx; have hR2 := hq.1; clear hq hB hR; have hB := hB2; have hR := hR2; clear hB2 hR2; have hx := hB.size) | (go_at_call 47; (with_reducible refine (hleft _ _ hR).mono ?_); rintro e w4 ⟨rfl, n4, rfl⟩; have hB2 := below_drewN hB n4; clear hB; have hB := hB2; clear hB2))
    go_ret
    exact ⟨ret_bool (by simp), hB⟩
  · have hd : decide ((200 : Int) < t.size) = true := by simp; omega
    have hd' : (200 : Int) < t.size := by omega
    clear hl
    go_enter Try.func14, Try.ntmps14
    go_wp2_with (first | (go_at_call 23; (with_reducible refine (awake2 _).mono ?_); rintro e w5 ⟨rfl, hk⟩; have hB2 := bel_start hB hk; clear hk hB; have hB := hB2; clear hB2))
    go_ret
    exact ⟨rfl, hB⟩

/-- The bytes of a number of 32 bits. -/
theorem leb_last_lo : ∀ (f n : Nat), n < 128 ^ (f + 1) → ∃ pre c, leb (f + 1) n = pre ++ [c] ∧ c.toNat < 128 := by
  intro f
  induction f with
  | zero =>
    intro n hn
    have h1 : n < 128 := by simpa using hn
    exact ⟨[], _, leb_last 0 n h1, by rw [byte_lo n h1]; exact h1⟩
  | succ f ih =>
    intro n hn
    by_cases h : n < 128
    · exact ⟨[], _, leb_last _ n h, by rw [byte_lo n h]; exact h⟩
    · obtain ⟨pre, c, h1, h2⟩ := ih (n / 128) (pow_succ128 _ _ hn)
      exact ⟨UInt8.ofNat (n % 128 + 128) :: pre, c, by rw [leb_more _ n (by omega), h1]; rfl, h2⟩
set_option maxHeartbeats 2000000 in
theorem lebRuns_law (n : Int) (w : World) (hn : (Lit.int .u32 n).wf = true) : Calls Try.prog 5 #[.int .u32 n] w fun e w' => e = .returned (.bool true) ∧ Below w.heap.size w w' := by
  obtain ⟨n, rfl, hn1⟩ := u32_of hn
  have hu : n < U64 := by unfold U64; omega
  obtain ⟨pre, c, he, hc⟩ := leb_last_lo 9 n (u64_pow n hu)
  have hlen : (leb 10 n).length ≤ 5 := by
    rw [leb10_len n hu]
    have := bl_le n 32 (by omega) (by omega)
    unfold lsz; omega
  have hlen2 : pre.length ≤ 4 := by rw [he] at hlen; simp at hlen; omega
  have Hn := Lib.hid hu
  clear hn hu hn1 hlen
  have e64 : IntKind.u64.wrap (n : Int) = (n : Int) := by rw [IntKind.wrap_u64]; have := Hn.out; unfold U64 at this; omega
  have hput := fun (x : World) => lput_any (IsWr.fresh x) n Hn.out (by decide)
  rw [he] at hput
  go_enter Try.func5, Try.ntmps5
  go_wp2_with fail
  refine (hput _).mono ?_
  rintro e w1 ⟨rfl, hw⟩
  have hB := kept_wrNew hw (fun _ h => h.elim)
  have hW := hw.1
  clear hw
  go_wp2_with (go_at_call 22; (with_reducible refine (string_any hW).mono ?_); rintro e w4 ⟨rfl, n4, rfl⟩; have hB2 := below_drewN hB n4; clear hB hW; have hB := hB2; clear hB2)
  obtain ⟨S, hS⟩ : ∃ S : ByteArray, S = ⟨(pre ++ [c]).toArray⟩ := ⟨_, rfl⟩
  rw [← hS]
  have hsz : S.size = pre.length + 1 := by rw [hS]; show (List.toArray _).size = _; simp
  have hlast : ∀ h : pre.length < S.size, S[pre.length].toNat < 128 := by
    intro h
    have h1 : S[pre.length] = c := by
      have h2 : S.data.toList.drop pre.length = c :: [] := by rw [hS]; simp
      exact (at_drop h2).2
    rw [h1]; exact hc
  have Hsz := Lib.hid hsz
  have hs5 : S.size ≤ 5 := by omega
  have hs1 : 1 ≤ S.size := by omega
  clear hS hput he hsz
  go_loop [5, 6, 7] (fun r m i => ∃ k r' m' : Nat, i = .int .i64 k ∧ r = .int .i64 r' ∧ m = .int .i64 m' ∧ k ≤ S.size ∧ r' ≤ k ∧ m' ≤ 4) (fun _ _ i => S.size - (intOf i).toNat)
  case atStart => exact ⟨0, 0, 0, rfl, rfl, rfl, by omega, by omega, by omega⟩
  case round =>
    obtain ⟨k, r', m', rfl, rfl, rfl, hk, hr, hm⟩ := hrel
    by_cases hlt : k < S.size
    · by_cases h255 : S[k].toNat = 255
      · have hk3 : k < pre.length := by
          rcases Nat.lt_or_ge k pre.length with h | h
          · exact h
          · have e : k = pre.length := by have := Hsz.out; omega
            subst e
            have := hlast hlt
            omega
        have hd : ((S[k].toNat : Int) == 255) = true := by simp; omega
        have hd2 : ((S[k].toNat : Int) != 255) = false := by simp; omega
        clear h255
        go_wp2
        all_goals go_round
        case rel => exact ⟨k + 1, r' + 1, max m' (r' + 1), by go_num, by go_num, by congr 1; omega, by omega, by omega, by omega⟩
        case measure => simp [intOf]; omega
      · have hd : ((S[k].toNat : Int) == 255) = false := by simp; omega
        have hd2 : ((S[k].toNat : Int) != 255) = true := by simp; omega
        clear h255
        go_wp2
        all_goals go_round
        case rel => exact ⟨k + 1, 0, m', by go_num, rfl, rfl, by omega, by omega, by omega⟩
        case measure => simp [intOf]; omega
    · have e : k = pre.length + 1 := by have := Hsz.out; omega
      have hlo : (S[S.size - 1]'(by omega)).toNat < 128 := by
        have := Hsz.out
        have h1 := hlast (by omega)
        have h2 : S.size - 1 = pre.length := by omega
        simp only [h2]
        exact h1
      have hi : ((S.size : Int) - 1) = ((S.size - 1 : Nat) : Int) := by omega
      have hj : S.size - 1 < S.size := by omega
      clear e
      go_wp2_with (go_at_call 23; (with_reducible refine (awake2 _).mono ?_); rintro e w5 ⟨rfl, hk5⟩; have hB2 := bel_start hB hk5; clear hk5 hB; have hB := hB2; clear hB2)
      go_ret
      exact ⟨ret_bool (by simp; omega), hB⟩
end Go.Proofs.Ytedbbmopckbfbaa
