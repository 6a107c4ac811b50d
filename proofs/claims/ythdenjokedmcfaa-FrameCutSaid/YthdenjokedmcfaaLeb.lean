/- Contracts of package leb, and the plain words for its bytes. -/
import Derived.Test.YthdenjokedmcfaaCur
import Derived.Test.YthdenjokedmcfaaNum
import Derived.Test.YthdenjokedmcfaaShelf
namespace Go.Proofs.Ythdenjokedmcfaa
open Go.RowKit
set_option maxRecDepth 20000

theorem lput_any {w : World} {b : Nat} {R : Nat → Prop} {l : List UInt8} (h : IsWr w b R l) (n : Nat) (hn : n < U64) (hlen : l.length + 10 ≤ 140737488355328) :
    Calls Try.prog 96 #[.pointer (some ⟨b, 0, none⟩), .int .u64 n] w fun e w' => e = .returned (.tuple #[]) ∧ WrPost w b R (l ++ leb 10 n) w' := by
  go_enter Try.func96, Try.ntmps96
  go_wp2
  go_loopw [1] (fun x wr => ∃ (m f : Nat) (pre : List UInt8), 1 ≤ f ∧ m < 128 ^ f ∧ m < U64 ∧ x = .int .u64 m ∧ leb 10 n = pre ++ leb f m ∧ pre.length + f = 10 ∧ WrPost w b R (l ++ pre) wr) (fun x _ => (intOf x).toNat)
  case atStart => exact ⟨n, 10, [], by omega, by unfold U64 at hn; omega, hn, rfl, rfl, rfl, by simpa using WrPost.start h⟩
  case round =>
    obtain ⟨m, f, pre, hf1, hm, hm', rfl, he, hf, hw⟩ := hrel
    obtain ⟨g, rfl⟩ : ∃ g, f = g + 1 := by
      cases f with
      | zero => exact absurd hf1 (by omega)
      | succ g => exact ⟨g, rfl⟩
    have He := Lib.hid he
    have Hf := Lib.hid hf
    have hl : pre.length ≤ 9 := by omega
    have Hm := Lib.hid hm
    have Hm' := Lib.hid hm'
    have Hn := Lib.hid hn
    clear he hf hm hm' hn
    by_cases hc : m < 128
    · have hput := put_one hw.1 m (UInt8.ofNat m) (by simp; omega) (by simp; omega)
      go_wp2_with (go_at_call 75; refine hput.mono ?_; rintro e w' ⟨rfl, hw'⟩)
      go_end0
      refine ⟨rfl, ?_⟩
      rw [He.out, leb_last _ _ hc]
      rw [← List.append_assoc]
      exact hw.trans hw'
    · have hput := put_one hw.1 _ _ (or128' m) (by simp; omega)
      go_wp2_with (go_at_call 75; refine hput.mono ?_; rintro e w' ⟨rfl, hw'⟩)
      have hm8 : 128 ≤ m := by omega
      go_roundw
      case rel =>
        have h1 := pow_succ128 _ _ Hm.out
        have h2 := Hm'.out
        have h3 := He.out
        have h4 := Hf.out
        rw [leb_more _ _ hm8] at h3
        refine ⟨m / 128, g, pre ++ [UInt8.ofNat (m % 128 + 128)], ?_, h1, by unfold U64 at *; omega, ?_, by simp [h3], by simp; omega, by rw [← List.append_assoc]; exact hw.trans hw'⟩
        · rcases Nat.eq_zero_or_pos g with rfl | hg
          · simp at h1; omega
          · exact hg
        · go_num
      case measure => simp [intOf]; omega

theorem lfold_any (n : Int) (h0 : -9223372036854775808 ≤ n) (h1 : n ≤ 9223372036854775807) (w : World) :
    Calls Try.prog 112 #[.int .i64 n] w fun e w' => e = .returned (.int .u64 (foldV n)) ∧ w = w' := by
  go_enter Try.func112, Try.ntmps112
  go_wp2
  go_ret
  exact ⟨ret_int (fold_bits n h0 h1), rfl⟩
theorem lunfold_any (n : Nat) (h1 : n < U64) (w : World) :
    Calls Try.prog 103 #[.int .u64 n] w fun e w' => e = .returned (.int .i64 (unfoldV n)) ∧ w = w' := by
  go_enter Try.func103, Try.ntmps103
  go_wp2
  go_ret
  exact ⟨ret_int (unfold_bits n h1), rfl⟩
def LgPost (w : World) (b : Nat) (s : ByteArray) (r : Nat × Nat × Nat) (w' : World) : Prop := ∃ q, q ≤ s.size ∧ (r.2.1 = 0 → q = r.2.2) ∧ RdPost w b s q w'
theorem rd_trans {w w1 w2 : World} {b p q : Nat} {s : ByteArray} (h : RdPost w b s p w1) (k : RdPost w1 b s q w2) : RdPost w b s q w2 := ⟨k.1, h.2.trans k.2 fun _ _ x => x⟩
theorem ret2_ii {k k' : IntKind} {a a' : Int} {b b' : Int} (h : a = a') (h' : b = b') : Ending.returned (.tuple #[.int k a, .int k' b]) = .returned (.tuple #[.int k a', .int k' b']) := by rw [h, h']
set_option maxHeartbeats 1000000 in
theorem lget0_any {w : World} {b : Nat} {s : ByteArray} {p : Nat} (h : IsRd w b s p) (hp : p ≤ s.size) (hs : s.size ≤ 140737488355328) :
    Calls Try.prog 116 #[.pointer (some ⟨b, 0, none⟩)] w fun e w' => e = .returned (.tuple #[.int .u64 (lget s p).1, .int .i64 (lget s p).2.1]) ∧ LgPost w b s (lget s p) w' := by
  go_enter Try.func116, Try.ntmps116
  go_wp2
  go_loopw [4, 5] (fun n k wr => ∃ kk acc : Nat, kk ≤ 10 ∧ acc < 128 ^ kk ∧ k = .int .i64 kk ∧ n = .int .u64 acc ∧ p + kk ≤ s.size ∧ lget s p = lgo s p (10 - kk) kk acc ∧ RdPost w b s (p + kk) wr) (fun _ k _ => 10 - (intOf k).toNat)
  case atStart => exact ⟨0, 0, by omega, by omega, rfl, rfl, by omega, rfl, ⟨h, Only.refl _ _⟩⟩
  case round =>
    obtain ⟨kk, acc, hkk, ha, rfl, rfl, hpk, he, hw⟩ := hrel
    have He := Lib.hid he
    have Ha := Lib.hid ha
    clear he ha
    have hby := byte_any hw.1 hpk hs
    by_cases hc : kk < 10
    · by_cases hlt : p + kk < s.size
      · have e2 : by1 s (p + kk) = ((s[p + kk].toNat : Int), 0, p + kk + 1) := by simp [by1, hlt]
        rw [e2] at hby
        simp only at hby
        clear e2
        obtain ⟨c, hc'⟩ : ∃ c : Nat, c = s[p + kk].toNat := ⟨_, rfl⟩
        have hcb : c < 256 := by rw [hc']; exact s[p + kk].toNat_lt
        rw [← hc'] at hby
        have Hc := Lib.hid hc'
        clear hc'
        by_cases hz : (c = 0 ∧ 0 < kk) ∨ (1 < c ∧ kk = 9)
        · have Hr : Hid (lget s p = (0, 3, p)) := Lib.hid (He.out.trans (lgo_bad hc hlt Hc.out hz))
          by_cases h1 : c = 0
          · have hd1 : ((c : Int) == 0) = true := by simp; omega
            have hk0 : 0 < kk := by omega
            clear hz h1
            go_wp2_with (go_at_call 100; refine hby.mono ?_; rintro e w' ⟨rfl, hw'⟩)
            all_goals go_ret2
            all_goals (rw [Hr.out]; exact ⟨rfl, p + kk + 1, by omega, (fun h => by cases h), rd_trans hw hw'⟩)
          · have hd1 : ((c : Int) == 0) = false := by simp; omega
            have hd2 : ((kk : Int) == 9) = true := by simp; omega
            have hc1 : 1 < c := by omega
            clear hz h1
            go_wp2_with (go_at_call 100; refine hby.mono ?_; rintro e w' ⟨rfl, hw'⟩)
            all_goals go_ret2
            all_goals (rw [Hr.out]; exact ⟨rfl, p + kk + 1, by omega, (fun h => by cases h), rd_trans hw hw'⟩)
        · have h9 : ¬ (1 < c ∧ kk = 9) := by omega
          have Hb := Lib.hid (acc_bits acc c kk hcb hc Ha.out h9)
          have Hf := Lib.hid (acc_fit acc c kk hc Ha.out h9)
          by_cases hl : c < 128
          · have Hr := Lib.hid (He.out.trans (lgo_last hc hlt Hc.out hz hl))
            by_cases h1 : c = 0
            · have hd1 : ((c : Int) == 0) = true := by simp; omega
              have hk0 : ¬ 0 < kk := by omega
              clear hz h1 h9
              go_wp2_with (go_at_call 100; refine hby.mono ?_; rintro e w' ⟨rfl, hw'⟩)
              all_goals go_ret2
              all_goals (rw [Hr.out]; exact ⟨ret2_ii Hb.out rfl, p + kk + 1, by omega, fun _ => rfl, rd_trans hw hw'⟩)
            · have hd1 : ((c : Int) == 0) = false := by simp; omega
              by_cases hk9 : kk = 9
              · have hc1 : c ≤ 1 := by omega
                have hd2 : ((kk : Int) == 9) = true := by simp; omega
                clear hz h1 h9 hk9
                go_wp2_with (go_at_call 100; refine hby.mono ?_; rintro e w' ⟨rfl, hw'⟩)
                all_goals go_ret2
                all_goals (rw [Hr.out]; exact ⟨ret2_ii Hb.out rfl, p + kk + 1, by omega, fun _ => rfl, rd_trans hw hw'⟩)
              · have hd2 : ((kk : Int) == 9) = false := by simp; omega
                clear hz h1 h9 hk9
                go_wp2_with (go_at_call 100; refine hby.mono ?_; rintro e w' ⟨rfl, hw'⟩)
                all_goals go_ret2
                all_goals (rw [Hr.out]; exact ⟨ret2_ii Hb.out rfl, p + kk + 1, by omega, fun _ => rfl, rd_trans hw hw'⟩)
          · have Hr := Lib.hid (He.out.trans (lgo_go hc hlt Hc.out hz hl))
            have hd1 : ((c : Int) == 0) = false := by simp; omega
            have hd2 : ((kk : Int) == 9) = false := by simp; omega
            clear hz h9
            go_wp2_with (go_at_call 100; refine hby.mono ?_; rintro e w' ⟨rfl, hw'⟩)
            all_goals go_roundw
            case rel => exact ⟨kk + 1, acc + c % 128 * 128 ^ kk, by omega, Hf.out.2.1, by go_num, congrArg _ Hb.out, by omega, Hr.out, rd_trans hw hw'⟩
            case measure => simp [intOf]; omega
      · have e2 : by1 s (p + kk) = (0, 2, p + kk) := by simp [by1, hlt]
        rw [e2] at hby
        simp only at hby
        clear e2
        have Hr := Lib.hid (He.out.trans (lgo_end hc hlt))
        go_wp2_with (go_at_call 100; refine hby.mono ?_; rintro e w' ⟨rfl, hw'⟩)
        go_ret2
        rw [Hr.out]
        exact ⟨rfl, p + kk, by omega, (fun h => by cases h), rd_trans hw hw'⟩
    · obtain rfl : kk = 10 := by omega
      have Hr := Lib.hid (He.out.trans lgo_out)
      go_wp2_with fail
      go_ret2
      rw [Hr.out]
      exact ⟨rfl, p + 10, by omega, (fun h => by cases h), hw⟩

/-- Get, on a reader: it stands behind the number, or where it stood. -/
theorem lgo_next (s : ByteArray) (p : Nat) : ∀ (f k acc : Nat), p ≤ s.size → (lgo s p f k acc).2.2 ≤ s.size ∧ ((lgo s p f k acc).2.1 ≠ 0 → (lgo s p f k acc).1 = 0 ∧ (lgo s p f k acc).2.2 = p)
  | 0, k, acc, hp => ⟨hp, fun _ => ⟨rfl, rfl⟩⟩
  | f + 1, k, acc, hp => by
    rw [lgo]
    split
    · split
      · exact ⟨hp, fun _ => ⟨rfl, rfl⟩⟩
      · split
        · exact ⟨by simp only; omega, fun h => absurd rfl h⟩
        · exact lgo_next s p f _ _ hp
    · exact ⟨hp, fun _ => ⟨rfl, rfl⟩⟩
theorem lget_next (s : ByteArray) (p : Nat) (hp : p ≤ s.size) : (lget s p).2.2 ≤ s.size ∧ ((lget s p).2.1 ≠ 0 → (lget s p).1 = 0 ∧ (lget s p).2.2 = p) := lgo_next s p 10 0 0 hp
theorem lget_any {w : World} {b : Nat} {s : ByteArray} {p : Nat} (h : IsRd w b s p) (hp : p ≤ s.size) (hs : s.size ≤ 140737488355328) :
    Calls Try.prog 113 #[.pointer (some ⟨b, 0, none⟩)] w fun e w' => e = .returned (.tuple #[.int .u64 (lget s p).1, .int .i64 (lget s p).2.1]) ∧ RdPost w b s (lget s p).2.2 w' := by
  have hg := fun (x : World) (hx : IsRd x b s p) => lget0_any hx hp hs
  have hn := (lget_next s p hp).2
  generalize lget s p = r at hg hn ⊢
  obtain ⟨v, er, nx⟩ := r
  simp only at hg hn ⊢
  by_cases he : er = 0
  · have hd : ((er : Int) == 0) = true := by simp [he]
    have hd' : ((er : Int) != 0) = false := by simp [he]
    have He := Lib.hid he
    clear he hn
    go_enter Try.func113, Try.ntmps113
    go_wp2_with (first | (go_at_call 60; refine (at_any h).mono ?_; rintro e w1 ⟨rfl, j, rfl⟩) | (go_at_call 116; refine (hg _ (h.drewN _)).mono ?_; rintro e w2 ⟨rfl, hq⟩))
    go_ret2
    obtain ⟨q, hq1, hq2, hq3⟩ := hq
    have := hq2 He.out
    subst this
    refine ⟨?_, hq3.1, (Only.ofDrewN _ _ _).trans hq3.2 fun _ _ x => x⟩
    rw [He.out]
    rfl
  · have hd : ((er : Int) == 0) = false := by simp [he]
    have hd' : ((er : Int) != 0) = true := by simp [he]
    obtain ⟨rfl, rfl⟩ := hn he
    clear he
    go_enter Try.func113, Try.ntmps113
    go_wp2_with (first | (go_at_call 60; refine (at_any h).mono ?_; rintro e w1 ⟨rfl, j, rfl⟩) | (go_at_call 116; refine (hg _ (h.drewN _)).mono ?_; rintro e w2 ⟨rfl, hq⟩; have Hq := Lib.hid hq; clear hq) | (go_at_call 55; obtain ⟨q, hq1, hq2, hq3⟩ := Hq.out; refine (seek_any hq3.1 _).mono ?_; rintro e w3 ⟨rfl, hq4⟩))
    go_ret2
    refine ⟨rfl, ?_⟩
    rw [sk_ok s q nx hp] at hq4
    exact ⟨hq4.1, ((Only.ofDrewN _ _ _).trans hq3.2 fun _ _ x => x).trans hq4.2 fun _ _ x => x⟩
theorem lget_nil (w : World) : Calls Try.prog 113 #[.pointer none] w fun e w' => e = .returned (.tuple #[.int .u64 0, .int .i64 16]) ∧ w = w' := by
  have hg : Calls Try.prog 116 #[.pointer none] w fun e w' => e = .returned (.tuple #[.int .u64 0, .int .i64 16]) ∧ w = w' := by
    go_enter Try.func116, Try.ntmps116
    go_wp2
    refine wp_loop_rounds 1 ?_
    rw [rounds_succ]
    go_wp2_with (go_at_call 100; refine (byte_nil _).mono ?_; rintro e w' ⟨rfl, rfl⟩)
    go_ret2
    exact ⟨rfl, rfl⟩
  go_enter Try.func113, Try.ntmps113
  go_wp2_with (first | (go_at_call 60; refine (at_nil _).mono ?_; rintro e w' ⟨rfl, rfl⟩) | (go_at_call 116; refine hg.mono ?_; rintro e w' ⟨rfl, rfl⟩) | (go_at_call 55; refine (seek_nil _ _).mono ?_; rintro e w' ⟨rfl, rfl⟩))
  go_ret2
  exact ⟨rfl, rfl⟩
/-- What Most answers. -/
def lmost (s : ByteArray) (p m : Nat) : Nat × Nat × Nat := if (lget s p).2.1 = 0 ∧ m < (lget s p).1 then (0, 5, p) else lget s p
theorem lmost_next (s : ByteArray) (p m : Nat) (hp : p ≤ s.size) : (lmost s p m).2.2 ≤ s.size := by
  unfold lmost; split
  · exact hp
  · exact (lget_next s p hp).1
theorem lmost_any {w : World} {b : Nat} {s : ByteArray} {p : Nat} (h : IsRd w b s p) (hp : p ≤ s.size) (hs : s.size ≤ 140737488355328) (m : Nat) :
    Calls Try.prog 102 #[.pointer (some ⟨b, 0, none⟩), .int .u64 m] w fun e w' => e = .returned (.tuple #[.int .u64 (lmost s p m).1, .int .i64 (lmost s p m).2.1]) ∧ RdPost w b s (lmost s p m).2.2 w' := by
  have hg := fun (x : World) (hx : IsRd x b s p) => lget_any hx hp hs
  unfold lmost
  generalize lget s p = r at hg ⊢
  obtain ⟨v, er, nx⟩ := r
  simp only at hg ⊢
  by_cases he : er = 0
  · have hd : ((er : Int) == 0) = true := by simp [he]
    by_cases hm : m < v
    · rw [if_pos ⟨he, hm⟩]
      have hdm : decide ((m : Int) < v) = true := by simp; omega
      have hm' : (m : Int) < v := by omega
      clear he
      go_enter Try.func102, Try.ntmps102
      go_wp2_with (first | (go_at_call 60; refine (at_any h).mono ?_; rintro e w1 ⟨rfl, j, rfl⟩) | (go_at_call 113; refine (hg _ (h.drewN _)).mono ?_; rintro e w2 ⟨rfl, hq⟩; have Hq := Lib.hid hq; clear hq) | (go_at_call 55; refine (seek_any Hq.out.1 _).mono ?_; rintro e w3 ⟨rfl, hq4⟩))
      go_ret2
      refine ⟨rfl, ?_⟩
      rw [sk_ok s _ p hp] at hq4
      exact ⟨hq4.1, ((Only.ofDrewN _ _ _).trans Hq.out.2 fun _ _ x => x).trans hq4.2 fun _ _ x => x⟩
    · rw [if_neg (by omega)]
      have hdm : decide ((m : Int) < v) = false := by simp; omega
      have hm' : (v : Int) ≤ m := by omega
      clear hm
      have He := Lib.hid he
      clear he
      go_enter Try.func102, Try.ntmps102
      go_wp2_with (first | (go_at_call 60; refine (at_any h).mono ?_; rintro e w1 ⟨rfl, j, rfl⟩) | (go_at_call 113; refine (hg _ (h.drewN _)).mono ?_; rintro e w2 ⟨rfl, hq⟩; have Hq := Lib.hid hq; clear hq))
      go_ret2
      exact ⟨rfl, Hq.out.1, (Only.ofDrewN _ _ _).trans Hq.out.2 fun _ _ x => x⟩
  · have hd : ((er : Int) == 0) = false := by simp [he]
    rw [if_neg (by omega)]
    clear he
    go_enter Try.func102, Try.ntmps102
    go_wp2_with (first | (go_at_call 60; refine (at_any h).mono ?_; rintro e w1 ⟨rfl, j, rfl⟩) | (go_at_call 113; refine (hg _ (h.drewN _)).mono ?_; rintro e w2 ⟨rfl, hq⟩; have Hq := Lib.hid hq; clear hq))
    go_ret2
    exact ⟨rfl, Hq.out.1, (Only.ofDrewN _ _ _).trans Hq.out.2 fun _ _ x => x⟩
theorem lmost_nil (m : Value) (w : World) : Calls Try.prog 102 #[.pointer none, m] w fun e w' => e = .returned (.tuple #[.int .u64 0, .int .i64 16]) ∧ w = w' := by
  go_enter Try.func102, Try.ntmps102
  go_wp2_with (first | (go_at_call 60; refine (at_nil _).mono ?_; rintro e w' ⟨rfl, rfl⟩) | (go_at_call 113; refine (lget_nil _).mono ?_; rintro e w' ⟨rfl, rfl⟩))
  go_ret2
  exact ⟨rfl, rfl⟩
theorem lputInt_any {w : World} {b : Nat} {R : Nat → Prop} {l : List UInt8} (h : IsWr w b R l) (n : Int) (h0 : -9223372036854775808 ≤ n) (h1 : n ≤ 9223372036854775807) (hlen : l.length + 10 ≤ 140737488355328) :
    Calls Try.prog 97 #[.pointer (some ⟨b, 0, none⟩), .int .i64 n] w fun e w' => e = .returned (.tuple #[]) ∧ WrPost w b R (l ++ leb 10 (foldV n)) w' := by
  go_enter Try.func97, Try.ntmps97
  go_wp2_with (first | (go_at_call 112; refine (lfold_any n h0 h1 _).mono ?_; rintro e w' ⟨rfl, rfl⟩) | (go_at_call 96; refine (lput_any h _ (fold_lt n h0 h1) hlen).mono ?_; rintro e w' ⟨rfl, hw'⟩))
  go_end0
  exact ⟨rfl, hw'⟩
theorem lget_lt (s : ByteArray) (p : Nat) : ∀ (f k acc : Nat), k + f = 10 → acc < 128 ^ k → (lgo s p f k acc).1 < U64
  | 0, k, acc, _, _ => by rw [lgo]; unfold U64; omega
  | f + 1, k, acc, hk, ha => by
    rw [lgo]
    split
    · split
      · unfold U64; simp
      · rename_i h hb
        have := acc_fit acc (s[p + k].toNat) k (by omega) ha (by omega)
        split
        · rename_i hl
          rw [Nat.mod_eq_of_lt hl] at this
          exact this.1
        · exact lget_lt s p f _ _ (by omega) this.2.1
    · unfold U64; simp
theorem lput_nil (n : Nat) (_hn : n < U64) (w : World) : Calls Try.prog 96 #[.pointer none, .int .u64 n] w fun e w' => e = .returned (.tuple #[]) ∧ Below w.heap.size w w' := by
  go_enter Try.func96, Try.ntmps96
  go_wp2
  go_loopw [1] (fun x wr => ∃ m : Nat, x = .int .u64 m ∧ Below w.heap.size w wr) (fun x _ => (intOf x).toNat)
  case atStart => exact ⟨n, rfl, Below.refl _ _⟩
  case round =>
    obtain ⟨m, rfl, hb⟩ := hrel
    have hsz := hb.size
    clear _hn
    by_cases hc : m < 128
    · go_wp2_with (go_at_call 75; refine (put_nil _ _).mono ?_; rintro e w' ⟨rfl, rfl⟩)
      go_end0
      exact ⟨rfl, hb.alloc (by omega) _⟩
    · go_wp2_with (go_at_call 75; refine (put_nil _ _).mono ?_; rintro e w' ⟨rfl, rfl⟩)
      go_roundw
      case rel => exact ⟨m / 128, by go_num, hb.alloc (by omega) _⟩
      case measure => simp [intOf]; omega
theorem lputInt_nil (n : Int) (h0 : -9223372036854775808 ≤ n) (h1 : n ≤ 9223372036854775807) (w : World) : Calls Try.prog 97 #[.pointer none, .int .i64 n] w fun e w' => e = .returned (.tuple #[]) ∧ Below w.heap.size w w' := by
  go_enter Try.func97, Try.ntmps97
  go_wp2_with (first | (go_at_call 112; refine (lfold_any n h0 h1 _).mono ?_; rintro e w' ⟨rfl, rfl⟩) | (go_at_call 96; refine (lput_nil _ (fold_lt n h0 h1) _).mono ?_; rintro e w' ⟨rfl, hw'⟩))
  go_end0
  exact ⟨rfl, hw'⟩
end Go.Proofs.Ythdenjokedmcfaa
