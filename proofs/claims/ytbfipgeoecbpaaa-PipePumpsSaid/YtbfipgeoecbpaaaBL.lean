/- A bundle of: Leb Ref2 Sept Ref4 CurF Nx Rd CoilL. -/
import Derived.Test.YtbfipgeoecbpaaaCur
import Derived.Test.YtbfipgeoecbpaaaNum
import Derived.Test.YtbfipgeoecbpaaaShelf
import Derived.Deep.DeepMust
import Derived.Test.YtbfipgeoecbpaaaBP
import Derived.Lib.IndexMore
/- Contracts of package leb, and the plain words for its bytes. -/
namespace Go.Proofs.Ytbfipgeoecbpaaa
open Go.RowKit
set_option maxRecDepth 20000

theorem lput_any {w : World} {b : Nat} {R : Nat → Prop} {l : List UInt8} (h : IsWr w b R l) (n : Nat) (hn : n < U64) (hlen : l.length + 10 ≤ 140737488355328) :
    Calls Try.prog 102 #[.pointer (some ⟨b, 0, none⟩), .int .u64 n] w fun e w' => e = .returned (.tuple #[]) ∧ WrPost w b R (l ++ leb 10 n) w' := by
  go_enter Try.func102, Try.ntmps102
  go_wp2
  go_loopw [1] (fun x wr => ∃ (m f : Nat) (pre : List UInt8), 1 ≤ f ∧ m < 128 ^ f ∧ m < U64 ∧ x = .int .u64 m ∧ leb 10 n = pre ++ leb f m ∧ pre.length + f = 10 ∧ WrPost w b R (l ++ pre) wr) (fun x _ => (intOf x).toNat)
  case atStart => exact ⟨n, 10, [], by omega, by unfold U64 at hn; omega, hn, rfl, rfl, rfl, by simpa using WrPost.start h⟩
  case round =>
    obtain ⟨m, f, pre, hf1, hm, hm', rfl, he, hf, hw⟩ := hrel
    obtain ⟨g, rfl⟩ : ∃ g, f = g + 1 := by
      cases f with
      | zero => exact absurd hf1 (by omega)
      | succ g => exact ⟨g, rfl⟩
    have He := Lib.hid he
    have Hf := Lib.hid hf
    have hl : pre.length ≤ 9 := by omega
    have Hm := Lib.hid hm
    have Hm' := Lib.hid hm'
    have Hn := Lib.hid hn
    clear he hf hm hm' hn
    by_cases hc : m < 128
    · have hput := put_one hw.1 m (UInt8.ofNat m) (by simp; omega) (by simp; omega)
      go_wp2_with (go_at_call 100; refine hput.mono ?_; rintro e w' ⟨rfl, hw'⟩)
      go_end0
      refine ⟨rfl, ?_⟩
      rw [He.out, leb_last _ _ hc]
      rw [← List.append_assoc]
      exact hw.trans hw'
    · have hput := put_one hw.1 _ _ (or128' m) (by simp; omega)
      go_wp2_with (go_at_call 100; refine hput.mono ?_; rintro e w' ⟨rfl, hw'⟩)
      have hm8 : 128 ≤ m := by omega
      go_roundw
      case rel =>
        have h1 := pow_succ128 _ _ Hm.out
        have h2 := Hm'.out
        have h3 := He.out
        have h4 := Hf.out
        rw [leb_more _ _ hm8] at h3
        refine ⟨m / 128, g, pre ++ [UInt8.ofNat (m % 128 + 128)], ?_, h1, by unfold U64 at *; omega, ?_, by simp [h3], by simp; omega, by rw [← List.append_assoc]; exact hw.trans hw'⟩
        · rcases Nat.eq_zero_or_pos g with rfl | hg
          · simp at h1; omega
          · exact hg
        · go_num
      case measure => simp [intOf]; omega

theorem lfold_any (n : Int) (h0 : -9223372036854775808 ≤ n) (h1 : n ≤ 9223372036854775807) (w : World) :
    Calls Try.prog 122 #[.int .i64 n] w fun e w' => e = .returned (.int .u64 (foldV n)) ∧ w = w' := by
  go_enter Try.func122, Try.ntmps122
  go_wp2
  go_ret
  exact ⟨ret_int (fold_bits n h0 h1), rfl⟩
theorem lunfold_any (n : Nat) (h1 : n < U64) (w : World) :
    Calls Try.prog 137 #[.int .u64 n] w fun e w' => e = .returned (.int .i64 (unfoldV n)) ∧ w = w' := by
  go_enter Try.func137, Try.ntmps137
  go_wp2
  go_ret
  exact ⟨ret_int (unfold_bits n h1), rfl⟩
def LgPost (w : World) (b : Nat) (s : ByteArray) (r : Nat × Nat × Nat) (w' : World) : Prop := ∃ q, q ≤ s.size ∧ (r.2.1 = 0 → q = r.2.2) ∧ RdPost w b s q w'
theorem rd_trans {w w1 w2 : World} {b p q : Nat} {s : ByteArray} (h : RdPost w b s p w1) (k : RdPost w1 b s q w2) : RdPost w b s q w2 := ⟨k.1, h.2.trans k.2 fun _ _ x => x⟩
theorem ret2_ii {k k' : IntKind} {a a' : Int} {b b' : Int} (h : a = a') (h' : b = b') : Ending.returned (.tuple #[.int k a, .int k' b]) = .returned (.tuple #[.int k a', .int k' b']) := by rw [h, h']
set_option maxHeartbeats 1000000 in
theorem lget0_any {w : World} {b : Nat} {s : ByteArray} {p : Nat} (h : IsRd w b s p) (hp : p ≤ s.size) (hs : s.size ≤ 140737488355328) :
    Calls Try.prog 141 #[.pointer (some ⟨b, 0, none⟩)] w fun e w' => e = .returned (.tuple #[.int .u64 (lget s p).1, .int .i64 (lget s p).2.1]) ∧ LgPost w b s (lget s p) w' := by
  go_enter Try.func141, Try.ntmps141
  go_wp2
  go_loopw [4, 5] (fun n k wr => ∃ kk acc : Nat, kk ≤ 10 ∧ acc < 128 ^ kk ∧ k = .int .i64 kk ∧ n = .int .u64 acc ∧ p + kk ≤ s.size ∧ lget s p = lgo s p (10 - kk) kk acc ∧ RdPost w b s (p + kk) wr) (fun _ k _ => 10 - (intOf k).toNat)
  case atStart => exact ⟨0, 0, by omega, by omega, rfl, rfl, by omega, rfl, ⟨h, Only.refl _ _⟩⟩
  case round =>
    obtain ⟨kk, acc, hkk, ha, rfl, rfl, hpk, he, hw⟩ := hrel
    have He := Lib.hid he
    have Ha := Lib.hid ha
    clear he ha
    have hby := byte_any hw.1 hpk hs
    by_cases hc : kk < 10
    · by_cases hlt : p + kk < s.size
      · have e2 : by1 s (p + kk) = ((s[p + kk].toNat : Int), 0, p + kk + 1) := by simp [by1, hlt]
        rw [e2] at hby
        simp only at hby
        clear e2
        obtain ⟨c, hc'⟩ : ∃ c : Nat, c = s[p + kk].toNat := ⟨_, rfl⟩
        have hcb : c < 256 := by rw [hc']; exact s[p + kk].toNat_lt
        rw [← hc'] at hby
        have Hc := Lib.hid hc'
        clear hc'
        by_cases hz : (c = 0 ∧ 0 < kk) ∨ (1 < c ∧ kk = 9)
        · have Hr : Hid (lget s p = (0, 3, p)) := Lib.hid (He.out.trans (lgo_bad hc hlt Hc.out hz))
          by_cases h1 : c = 0
          · have hd1 : ((c : Int) == 0) = true := by simp; omega
            have hk0 : 0 < kk := by omega
            clear hz h1
            go_wp2_with (go_at_call 134; refine hby.mono ?_; rintro e w' ⟨rfl, hw'⟩)
            all_goals go_ret2
            all_goals (rw [Hr.out]; exact ⟨rfl, p + kk + 1, by omega, (fun h => by cases h), rd_trans hw hw'⟩)
          · have hd1 : ((c : Int) == 0) = false := by simp; omega
            have hd2 : ((kk : Int) == 9) = true := by simp; omega
            have hc1 : 1 < c := by omega
            clear hz h1
            go_wp2_with (go_at_call 134; refine hby.mono ?_; rintro e w' ⟨rfl, hw'⟩)
            all_goals go_ret2
            all_goals (rw [Hr.out]; exact ⟨rfl, p + kk + 1, by omega, (fun h => by cases h), rd_trans hw hw'⟩)
        · have h9 : ¬ (1 < c ∧ kk = 9) := by omega
          have Hb := Lib.hid (acc_bits acc c kk hcb hc Ha.out h9)
          have Hf := Lib.hid (acc_fit acc c kk hc Ha.out h9)
          by_cases hl : c < 128
          · have Hr := Lib.hid (He.out.trans (lgo_last hc hlt Hc.out hz hl))
            by_cases h1 : c = 0
            · have hd1 : ((c : Int) == 0) = true := by simp; omega
              have hk0 : ¬ 0 < kk := by omega
              clear hz h1 h9
              go_wp2_with (go_at_call 134; refine hby.mono ?_; rintro e w' ⟨rfl, hw'⟩)
              all_goals go_ret2
              all_goals (rw [Hr.out]; exact ⟨ret2_ii Hb.out rfl, p + kk + 1, by omega, fun _ => rfl, rd_trans hw hw'⟩)
            · have hd1 : ((c : Int) == 0) = false := by simp; omega
              by_cases hk9 : kk = 9
              · have hc1 : c ≤ 1 := by omega
                have hd2 : ((kk : Int) == 9) = true := by simp; omega
                clear hz h1 h9 hk9
                go_wp2_with (go_at_call 134; refine hby.mono ?_; rintro e w' ⟨rfl, hw'⟩)
                all_goals go_ret2
                all_goals (rw [Hr.out]; exact ⟨ret2_ii Hb.out rfl, p + kk + 1, by omega, fun _ => rfl, rd_trans hw hw'⟩)
              · have hd2 : ((kk : Int) == 9) = false := by simp; omega
                clear hz h1 h9 hk9
                go_wp2_with (go_at_call 134; refine hby.mono ?_; rintro e w' ⟨rfl, hw'⟩)
                all_goals go_ret2
                all_goals (rw [Hr.out]; exact ⟨ret2_ii Hb.out rfl, p + kk + 1, by omega, fun _ => rfl, rd_trans hw hw'⟩)
          · have Hr := Lib.hid (He.out.trans (lgo_go hc hlt Hc.out hz hl))
            have hd1 : ((c : Int) == 0) = false := by simp; omega
            have hd2 : ((kk : Int) == 9) = false := by simp; omega
            clear hz h9
            go_wp2_with (go_at_call 134; refine hby.mono ?_; rintro e w' ⟨rfl, hw'⟩)
            all_goals go_roundw
            case rel => exact ⟨kk + 1, acc + c % 128 * 128 ^ kk, by omega, Hf.out.2.1, by go_num, congrArg _ Hb.out, by omega, Hr.out, rd_trans hw hw'⟩
            case measure => simp [intOf]; omega
      · have e2 : by1 s (p + kk) = (0, 2, p + kk) := by simp [by1, hlt]
        rw [e2] at hby
        simp only at hby
        clear e2
        have Hr := Lib.hid (He.out.trans (lgo_end hc hlt))
        go_wp2_with (go_at_call 134; refine hby.mono ?_; rintro e w' ⟨rfl, hw'⟩)
        go_ret2
        rw [Hr.out]
        exact ⟨rfl, p + kk, by omega, (fun h => by cases h), rd_trans hw hw'⟩
    · obtain rfl : kk = 10 := by omega
      have Hr := Lib.hid (He.out.trans lgo_out)
      go_wp2_with fail
      go_ret2
      rw [Hr.out]
      exact ⟨rfl, p + 10, by omega, (fun h => by cases h), hw⟩

/-- Get, on a reader: it stands behind the number, or where it stood. -/
theorem lgo_next (s : ByteArray) (p : Nat) : ∀ (f k acc : Nat), p ≤ s.size → (lgo s p f k acc).2.2 ≤ s.size ∧ ((lgo s p f k acc).2.1 ≠ 0 → (lgo s p f k acc).1 = 0 ∧ (lgo s p f k acc).2.2 = p)
  | 0, k, acc, hp => ⟨hp, fun _ => ⟨rfl, rfl⟩⟩
  | f + 1, k, acc, hp => by
    rw [lgo]
    split
    · split
      · exact ⟨hp, fun _ => ⟨rfl, rfl⟩⟩
      · split
        · exact ⟨by simp only; omega, fun h => absurd rfl h⟩
        · exact lgo_next s p f _ _ hp
    · exact ⟨hp, fun _ => ⟨rfl, rfl⟩⟩
theorem lget_next (s : ByteArray) (p : Nat) (hp : p ≤ s.size) : (lget s p).2.2 ≤ s.size ∧ ((lget s p).2.1 ≠ 0 → (lget s p).1 = 0 ∧ (lget s p).2.2 = p) := lgo_next s p 10 0 0 hp
theorem lget_any {w : World} {b : Nat} {s : ByteArray} {p : Nat} (h : IsRd w b s p) (hp : p ≤ s.size) (hs : s.size ≤ 140737488355328) :
    Calls Try.prog 140 #[.pointer (some ⟨b, 0, none⟩)] w fun e w' => e = .returned (.tuple #[.int .u64 (lget s p).1, .int .i64 (lget s p).2.1]) ∧ RdPost w b s (lget s p).2.2 w' := by
  have hg := fun (x : World) (hx : IsRd x b s p) => lget0_any hx hp hs
  have hn := (lget_next s p hp).2
  generalize lget s p = r at hg hn ⊢
  obtain ⟨v, er, nx⟩ := r
  simp only at hg hn ⊢
  by_cases he : er = 0
  · have hd : ((er : Int) == 0) = true := by simp [he]
    have hd' : ((er : Int) != 0) = false := by simp [he]
    have He := Lib.hid he
    clear he hn
    go_enter Try.func140, Try.ntmps140
    go_wp2_with (first | (go_at_call 113; refine (at_any h).mono ?_; rintro e w1 ⟨rfl, j, rfl⟩) | (go_at_call 141; refine (hg _ (h.drewN _)).mono ?_; rintro e w2 ⟨rfl, hq⟩))
    go_ret2
    obtain ⟨q, hq1, hq2, hq3⟩ := hq
    have := hq2 He.out
    subst this
    refine ⟨?_, hq3.1, (Only.ofDrewN _ _ _).trans hq3.2 fun _ _ x => x⟩
    rw [He.out]
    rfl
  · have hd : ((er : Int) == 0) = false := by simp [he]
    have hd' : ((er : Int) != 0) = true := by simp [he]
    obtain ⟨rfl, rfl⟩ := hn he
    clear he
    go_enter Try.func140, Try.ntmps140
    go_wp2_with (first | (go_at_call 113; refine (at_any h).mono ?_; rintro e w1 ⟨rfl, j, rfl⟩) | (go_at_call 141; refine (hg _ (h.drewN _)).mono ?_; rintro e w2 ⟨rfl, hq⟩; have Hq := Lib.hid hq; clear hq) | (go_at_call 108; obtain ⟨q, hq1, hq2, hq3⟩ := Hq.out; refine (seek_any hq3.1 _).mono ?_; rintro e w3 ⟨rfl, hq4⟩))
    go_ret2
    refine ⟨rfl, ?_⟩
    rw [sk_ok s q nx hp] at hq4
    exact ⟨hq4.1, ((Only.ofDrewN _ _ _).trans hq3.2 fun _ _ x => x).trans hq4.2 fun _ _ x => x⟩
theorem lget_nil (w : World) : Calls Try.prog 140 #[.pointer none] w fun e w' => e = .returned (.tuple #[.int .u64 0, .int .i64 16]) ∧ w = w' := by
  have hg : Calls Try.prog 141 #[.pointer none] w fun e w' => e = .returned (.tuple #[.int .u64 0, .int .i64 16]) ∧ w = w' := by
    go_enter Try.func141, Try.ntmps141
    go_wp2
    refine wp_loop_rounds 1 ?_
    rw [rounds_succ]
    go_wp2_with (go_at_call 134; refine (byte_nil _).mono ?_; rintro e w' ⟨rfl, rfl⟩)
    go_ret2
    exact ⟨rfl, rfl⟩
  go_enter Try.func140, Try.ntmps140
  go_wp2_with (first | (go_at_call 113; refine (at_nil _).mono ?_; rintro e w' ⟨rfl, rfl⟩) | (go_at_call 141; refine hg.mono ?_; rintro e w' ⟨rfl, rfl⟩) | (go_at_call 108; refine (seek_nil _ _).mono ?_; rintro e w' ⟨rfl, rfl⟩))
  go_ret2
  exact ⟨rfl, rfl⟩
/-- What Most answers. -/
def lmost (s : ByteArray) (p m : Nat) : Nat × Nat × Nat := if (lget s p).2.1 = 0 ∧ m < (lget s p).1 then (0, 5, p) else lget s p
theorem lmost_next (s : ByteArray) (p m : Nat) (hp : p ≤ s.size) : (lmost s p m).2.2 ≤ s.size := by
  unfold lmost; split
  · exact hp
  · exact (lget_next s p hp).1
theorem lmost_any {w : World} {b : Nat} {s : ByteArray} {p : Nat} (h : IsRd w b s p) (hp : p ≤ s.size) (hs : s.size ≤ 140737488355328) (m : Nat) :
    Calls Try.prog 136 #[.pointer (some ⟨b, 0, none⟩), .int .u64 m] w fun e w' => e = .returned (.tuple #[.int .u64 (lmost s p m).1, .int .i64 (lmost s p m).2.1]) ∧ RdPost w b s (lmost s p m).2.2 w' := by
  have hg := fun (x : World) (hx : IsRd x b s p) => lget_any hx hp hs
  unfold lmost
  generalize lget s p = r at hg ⊢
  obtain ⟨v, er, nx⟩ := r
  simp only at hg ⊢
  by_cases he : er = 0
  · have hd : ((er : Int) == 0) = true := by simp [he]
    by_cases hm : m < v
    · rw [if_pos ⟨he, hm⟩]
      have hdm : decide ((m : Int) < v) = true := by simp; omega
      have hm' : (m : Int) < v := by omega
      clear he
      go_enter Try.func136, Try.ntmps136
      go_wp2_with (first | (go_at_call 113; refine (at_any h).mono ?_; rintro e w1 ⟨rfl, j, rfl⟩) | (go_at_call 140; refine (hg _ (h.drewN _)).mono ?_; rintro e w2 ⟨rfl, hq⟩; have Hq := Lib.hid hq; clear hq) | (go_at_call 108; refine (seek_any Hq.out.1 _).mono ?_; rintro e w3 ⟨rfl, hq4⟩))
      go_ret2
      refine ⟨rfl, ?_⟩
      rw [sk_ok s _ p hp] at hq4
      exact ⟨hq4.1, ((Only.ofDrewN _ _ _).trans Hq.out.2 fun _ _ x => x).trans hq4.2 fun _ _ x => x⟩
    · rw [if_neg (by omega)]
      have hdm : decide ((m : Int) < v) = false := by simp; omega
      have hm' : (v : Int) ≤ m := by omega
      clear hm
      have He := Lib.hid he
      clear he
      go_enter Try.func136, Try.ntmps136
      go_wp2_with (first | (go_at_call 113; refine (at_any h).mono ?_; rintro e w1 ⟨rfl, j, rfl⟩) | (go_at_call 140; refine (hg _ (h.drewN _)).mono ?_; rintro e w2 ⟨rfl, hq⟩; have Hq := Lib.hid hq; clear hq))
      go_ret2
      exact ⟨rfl, Hq.out.1, (Only.ofDrewN _ _ _).trans Hq.out.2 fun _ _ x => x⟩
  · have hd : ((er : Int) == 0) = false := by simp [he]
    rw [if_neg (by omega)]
    clear he
    go_enter Try.func136, Try.ntmps136
    go_wp2_with (first | (go_at_call 113; refine (at_any h).mono ?_; rintro e w1 ⟨rfl, j, rfl⟩) | (go_at_call 140; refine (hg _ (h.drewN _)).mono ?_; rintro e w2 ⟨rfl, hq⟩; have Hq := Lib.hid hq; clear hq))
    go_ret2
    exact ⟨rfl, Hq.out.1, (Only.ofDrewN _ _ _).trans Hq.out.2 fun _ _ x => x⟩
theorem lmost_nil (m : Value) (w : World) : Calls Try.prog 136 #[.pointer none, m] w fun e w' => e = .returned (.tuple #[.int .u64 0, .int .i64 16]) ∧ w = w' := by
  go_enter Try.func136, Try.ntmps136
  go_wp2_with (first | (go_at_call 113; refine (at_nil _).mono ?_; rintro e w' ⟨rfl, rfl⟩) | (go_at_call 140; refine (lget_nil _).mono ?_; rintro e w' ⟨rfl, rfl⟩))
  go_ret2
  exact ⟨rfl, rfl⟩
theorem lputInt_any {w : World} {b : Nat} {R : Nat → Prop} {l : List UInt8} (h : IsWr w b R l) (n : Int) (h0 : -9223372036854775808 ≤ n) (h1 : n ≤ 9223372036854775807) (hlen : l.length + 10 ≤ 140737488355328) :
    Calls Try.prog 103 #[.pointer (some ⟨b, 0, none⟩), .int .i64 n] w fun e w' => e = .returned (.tuple #[]) ∧ WrPost w b R (l ++ leb 10 (foldV n)) w' := by
  go_enter Try.func103, Try.ntmps103
  go_wp2_with (first | (go_at_call 122; refine (lfold_any n h0 h1 _).mono ?_; rintro e w' ⟨rfl, rfl⟩) | (go_at_call 102; refine (lput_any h _ (fold_lt n h0 h1) hlen).mono ?_; rintro e w' ⟨rfl, hw'⟩))
  go_end0
  exact ⟨rfl, hw'⟩
theorem lget_lt (s : ByteArray) (p : Nat) : ∀ (f k acc : Nat), k + f = 10 → acc < 128 ^ k → (lgo s p f k acc).1 < U64
  | 0, k, acc, _, _ => by rw [lgo]; unfold U64; omega
  | f + 1, k, acc, hk, ha => by
    rw [lgo]
    split
    · split
      · unfold U64; simp
      · rename_i h hb
        have := acc_fit acc (s[p + k].toNat) k (by omega) ha (by omega)
        split
        · rename_i hl
          rw [Nat.mod_eq_of_lt hl] at this
          exact this.1
        · exact lget_lt s p f _ _ (by omega) this.2.1
    · unfold U64; simp
theorem lput_nil (n : Nat) (_hn : n < U64) (w : World) : Calls Try.prog 102 #[.pointer none, .int .u64 n] w fun e w' => e = .returned (.tuple #[]) ∧ Below w.heap.size w w' := by
  go_enter Try.func102, Try.ntmps102
  go_wp2
  go_loopw [1] (fun x wr => ∃ m : Nat, x = .int .u64 m ∧ Below w.heap.size w wr) (fun x _ => (intOf x).toNat)
  case atStart => exact ⟨n, rfl, Below.refl _ _⟩
  case round =>
    obtain ⟨m, rfl, hb⟩ := hrel
    have hsz := hb.size
    clear _hn
    by_cases hc : m < 128
    · go_wp2_with (go_at_call 100; refine (put_nil _ _).mono ?_; rintro e w' ⟨rfl, rfl⟩)
      go_end0
      exact ⟨rfl, hb.alloc (by omega) _⟩
    · go_wp2_with (go_at_call 100; refine (put_nil _ _).mono ?_; rintro e w' ⟨rfl, rfl⟩)
      go_roundw
      case rel => exact ⟨m / 128, by go_num, hb.alloc (by omega) _⟩
      case measure => simp [intOf]; omega
theorem lputInt_nil (n : Int) (h0 : -9223372036854775808 ≤ n) (h1 : n ≤ 9223372036854775807) (w : World) : Calls Try.prog 103 #[.pointer none, .int .i64 n] w fun e w' => e = .returned (.tuple #[]) ∧ Below w.heap.size w w' := by
  go_enter Try.func103, Try.ntmps103
  go_wp2_with (first | (go_at_call 122; refine (lfold_any n h0 h1 _).mono ?_; rintro e w' ⟨rfl, rfl⟩) | (go_at_call 102; refine (lput_nil _ (fold_lt n h0 h1) _).mono ?_; rintro e w' ⟨rfl, hw'⟩))
  go_end0
  exact ⟨rfl, hw'⟩
end Go.Proofs.Ytbfipgeoecbpaaa
/- Contracts of the reference of layer 2. -/
namespace Go.Proofs.Ytbfipgeoecbpaaa
open Go.RowKit
set_option maxRecDepth 20000
theorem src_one {w : World} (x : Int) (c : UInt8) (hx : x = c.toNat) : Src (w.alloc (.cells #[.int .u8 x] 5)) (.slice (some ⟨w.heap.size, 0, none⟩) 1 1) 1 (bv [c]) := by
  subst hx
  refine .inr ⟨_, _, rfl, fun j u hj => ?_⟩
  match j, hj with
  | 0, hj => simp [bv] at hj; subst hj; simp [Addr.add]
  | j + 1, hj => simp [bv] at hj
set_option maxHeartbeats 400000 in
theorem rprint_any (n : Nat) (hn : n < U64) (w : World) :
    Calls Try.prog 85 #[.int .u64 n] w fun e w' => e = .returned (.string ⟨(leb 10 n).toArray⟩) ∧ Below w.heap.size w w' := by
  obtain ⟨i0, hi, hz0, hz1, hz2⟩ := info_parts info_u8
  go_enter Try.func85, Try.ntmps85
  go_wp2
  go_loopw [0, 3] (fun x o wr => ∃ (m f : Nat) (pre : List UInt8) (ao : Option Addr) (cap : Nat), 1 ≤ f ∧ m < 128 ^ f ∧ m < U64 ∧ x = .int .u64 m ∧ leb 10 n = pre ++ leb f m ∧ pre.length + f = 10 ∧ o = .slice ao pre.length cap ∧ wr.ownsRow w.heap.size 5 1 (.slice ao pre.length cap) pre.length (bv pre) ∧ Below w.heap.size w wr) (fun x _ _ => (intOf x).toNat)
  case atStart =>
    refine ⟨n, 10, [], some ⟨w.heap.size, 0, none⟩, 0, by omega, u64_pow n hn, hn, rfl, rfl, rfl, rfl, ?_, (Below.refl _ _).alloc (Nat.le_refl _) _⟩
    exact World.ownsRow_lit w #[] 0 (Nat.le_refl _) (by decide) rfl
  case round =>
    obtain ⟨m, f, pre, ao, cap, hf1, hm, hm', rfl, he, hf, rfl, hown, hb⟩ := hrel
    obtain ⟨g, rfl⟩ : ∃ g, f = g + 1 := ⟨f - 1, by omega⟩
    have hl : pre.length ≤ 9 := by omega
    have hsz := hb.size
    have He := Lib.hid he
    have Hf := Lib.hid hf
    have Hm := Lib.hid hm
    have Hm' := Lib.hid hm'
    have Hq := Lib.hid (u64_quo m hm')
    have Hn := Lib.hid hn
    clear he hf hm hm' hn
    by_cases hc : m < 128
    · have hb1 : (m : Int) = ((UInt8.ofNat m).toNat : Int) := congrArg Nat.cast (byte_lo m hc).symm
      have Hb1 := Lib.hid hb1
      clear hb1
      go_wp2_with (at_builtin; go_must (refine list_append rfl (.tmp 16) (.tmp 19) 97 rfl w.heap.size (by simp; omega) 5 i0 (.int .u8 0) 1 1 ul_bytes hi hz0 hz1 hz2 rfl (by decide) (.slice ao pre.length cap) pre.length (bv pre) rfl (hown.alloc _) _ 1 (bv [UInt8.ofNat m]) rfl rfl (src_one _ _ Hb1.out) (bv_one _) (by unfold maxLen; omega) (by omega) ?_); intro ao2 cap2 w1 hown' hg hat; rw [← bv_append] at hown'; have hcv := run_str_own' (P := Try.prog) (src := 97) (dst := 9) hown' (by simp) ul_bytes (by kernel_rfl) ul_string)
      go_ret
      refine ⟨?_, below_append (hb.alloc (by omega) _) (hown.alloc _) hg (by simp; omega)⟩
      rw [He.out, leb_last _ _ hc]
      rfl
    · have hb1 : (m : Int) % 128 + 128 = ((UInt8.ofNat (m % 128 + 128)).toNat : Int) := by rw [byte_hi]; omega
      have Hb1 := Lib.hid hb1
      clear hb1
      go_wp2_with (at_builtin; go_must (refine list_append rfl (.tmp 7) (.tmp 12) 97 rfl w.heap.size (by simp; omega) 5 i0 (.int .u8 0) 1 1 ul_bytes hi hz0 hz1 hz2 rfl (by decide) (.slice ao pre.length cap) pre.length (bv pre) rfl (hown.alloc _) _ 1 (bv [UInt8.ofNat (m % 128 + 128)]) rfl rfl (src_one _ _ Hb1.out) (bv_one _) (by unfold maxLen; omega) (by omega) ?_); intro ao2 cap2 w1 hown' hg hat; rw [← bv_append] at hown')
      have hm8 : 128 ≤ m := by omega
      go_roundw
      case rel =>
        have h1 := pow_succ128 _ _ Hm.out
        have h3 := He.out
        have h4 := Hf.out
        rw [leb_more _ _ hm8] at h3
        have hb2 := below_append (hb.alloc (by omega) _) (hown.alloc _) hg (by simp; omega)
        refine ⟨m / 128, g, pre ++ [UInt8.ofNat (m % 128 + 128)], ao2, cap2, ?_, h1, by have := Hm'.out; unfold U64 at *; omega, by rw [Hq.out]; go_num, by simp [h3], by simp; omega, by simp, by simpa using hown', hb2⟩
        rcases Nat.eq_zero_or_pos g with rfl | hg
        · simp at h1; omega
        · exact hg
      case measure => rw [Hq.out]; simp [intOf]; omega

theorem ret3_iii {k k' k'' : IntKind} {a a' b b' c c' : Int} (h : a = a') (h' : b = b') (h'' : c = c') : Ending.returned (.tuple #[.int k a, .int k' b, .int k'' c]) = .returned (.tuple #[.int k a', .int k' b', .int k'' c']) := by rw [h, h', h'']
set_option maxHeartbeats 1000000 in
theorem rget_any {s : ByteArray} {p : Nat} (hp : p ≤ s.size) (hs : s.size ≤ 140737488355328) (w : World) :
    Calls Try.prog 128 #[.string s, .int .i64 p] w fun e w' => e = .returned (.tuple #[.int .u64 (lget s p).1, .int .i64 (lget s p).2.1, .int .i64 (lget s p).2.2]) ∧ w = w' := by
  go_enter Try.func128, Try.ntmps128
  go_wp2
  go_loop [7] (fun k => ∃ kk : Nat, kk ≤ 10 ∧ k = .int .i64 kk ∧ p + kk ≤ s.size ∧ lget s p = lgo s p (10 - kk) kk (acc7 s p kk)) (fun k => 10 - (intOf k).toNat)
  case atStart => exact ⟨0, by omega, rfl, by omega, rfl⟩
  case round =>
    obtain ⟨kk, hkk, rfl, hpk, he⟩ := hrel
    have He := Lib.hid he
    clear he
    by_cases hc : kk < 10
    · by_cases hlt : p + kk < s.size
      · obtain ⟨c, hc'⟩ : ∃ c : Nat, c = s[p + kk].toNat := ⟨_, rfl⟩
        have hcb : c < 256 := by rw [hc']; exact s[p + kk].toNat_lt
        have Hbt := Lib.hid (show bt s (p + kk) = c by rw [bt_of hlt, hc'])
        have Hc := Lib.hid hc'
        by_cases hz : (c = 0 ∧ 0 < kk) ∨ (1 < c ∧ kk = 9)
        · have Hr := Lib.hid (He.out.trans (lgo_bad hc hlt hc' hz))
          have Hz := Lib.hid hz
          by_cases h1 : c = 0
          · have hd1 : ((s[p + kk].toNat : Int) == 0) = true := by rw [← hc']; simp; omega
            have hk0 : 0 < kk := by omega
            clear hc' hz h1
            go_wp2
            all_goals go_ret3
            all_goals exact ⟨by rw [Hr.out]; rfl, rfl⟩
          · have hd1 : ((s[p + kk].toNat : Int) == 0) = false := by rw [← hc']; simp; omega
            have hd2 : ((kk : Int) == 9) = true := by simp; omega
            have hc1 : (1 : Int) < s[p + kk].toNat := by rw [← hc']; omega
            clear hc' hz h1
            go_wp2
            all_goals go_ret3
            all_goals exact ⟨by rw [Hr.out]; rfl, rfl⟩
        · by_cases hl : c < 128
          · have Hr := Lib.hid (He.out.trans (lgo_last hc hlt hc' hz hl))
            have Hz := Lib.hid hz
            have hl' : (s[p + kk].toNat : Int) < 128 := by rw [← hc']; omega
            have hcase : (((s[p + kk].toNat : Int) == 0) = true ∧ decide (0 < kk) = false) ∨ (((s[p + kk].toNat : Int) == 0) = false ∧ (s[p + kk].toNat : Int) ≤ 1) ∨ (((s[p + kk].toNat : Int) == 0) = false ∧ ((kk : Int) == 9) = false) := by
              rw [← hc']; simp; omega
            clear hc' hz hl
            rcases hcase with ⟨hd1, hd2⟩ | ⟨hd1, hd2⟩ | ⟨hd1, hd2⟩
            all_goals go_wp2
            all_goals (
              clear hd1 hd2 hl'
              go_loop [9, 10] (fun n i => ∃ (j m : Nat) (x : Int), i = .int .i64 x ∧ x = (j : Int) - 1 ∧ n = .int .u64 m ∧ j ≤ kk + 1 ∧ m * 128 ^ j + acc7 s p j = acc7 s p (kk + 1)) (fun _ i => (intOf i + 1).toNat)
              case atStart => exact ⟨kk + 1, 0, _, rfl, by omega, rfl, by omega, by simp⟩
              case round =>
                obtain ⟨j, m, x, rfl, hx, rfl, hj, hh⟩ := hrel
                have Hh := Lib.hid hh
                have Hx := Lib.hid hx
                clear hh hx
                rcases Nat.eq_zero_or_pos j with hj0 | hj0
                · have hx1 : x < 0 := by have := Hx.out; omega
                  have Hj := Lib.hid hj0
                  clear hj0 hj
                  go_wp2
                  go_ret3
                  refine ⟨?_, rfl⟩
                  have h1 := Hh.out
                  rw [Hj.out, Nat.pow_zero, Nat.mul_one, acc7, acc7, Hbt.out] at h1
                  rw [Hr.out]
                  exact ret3_iii (by rw [← h1]; simp) rfl (by simp)
                · obtain ⟨jj, rfl⟩ : ∃ jj, j = jj + 1 := ⟨j - 1, by omega⟩
                  obtain rfl : x = (jj : Int) := by have := Hx.out; omega
                  have hlt2 : p + jj < s.size := by omega
                  clear Hx
                  go_wp2
                  go_round
                  case rel =>
                    have h1 := horner s p kk jj m Hh.out
                    have h2 := horner_lt s p kk jj _ h1
                    have h3 := acc_fit (acc7 s p kk) c kk hc (acc7_lt s p kk) (fun h => Hz.out (.inr h))
                    have h4 : acc7 s p (kk + 1) < U64 := by rw [acc7, Hbt.out]; exact h3.1
                    rw [bt_of hlt2] at h1 h2
                    exact ⟨jj, _, _, rfl, rfl, congrArg _ (wrap_horner m _ (by omega)), by omega, h1⟩
                  case measure => simp [intOf])
          · have Hr := Lib.hid (He.out.trans (lgo_go hc hlt hc' hz hl))
            have hd1 : ((s[p + kk].toNat : Int) == 0) = false := by rw [← hc']; simp; omega
            have hd2 : ((kk : Int) == 9) = false := by simp; omega
            have hd3 : (128 : Int) ≤ s[p + kk].toNat := by rw [← hc']; omega
            clear hc' hz
            go_wp2
            go_round
            case rel => exact ⟨kk + 1, by omega, by go_num, by omega, by rw [Hr.out, acc7, Hbt.out]⟩
            case measure => simp [intOf]; omega
      · have Hr := Lib.hid (He.out.trans (lgo_end hc hlt))
        go_wp2
        go_ret3
        exact ⟨by rw [Hr.out]; rfl, rfl⟩
    · obtain rfl : kk = 10 := by omega
      have Hr := Lib.hid (He.out.trans lgo_out)
      go_wp2
      go_ret3
      exact ⟨by rw [Hr.out]; rfl, rfl⟩

theorem rmost_any {s : ByteArray} {p : Nat} (hp : p ≤ s.size) (hs : s.size ≤ 140737488355328) (m : Nat) (w : World) :
    Calls Try.prog 114 #[.string s, .int .i64 p, .int .u64 m] w fun e w' => e = .returned (.tuple #[.int .u64 (lmost s p m).1, .int .i64 (lmost s p m).2.1, .int .i64 (lmost s p m).2.2]) ∧ w = w' := by
  have hg := fun (x : World) => rget_any hp hs x
  unfold lmost
  generalize lget s p = r at hg ⊢
  obtain ⟨v, er, nx⟩ := r
  simp only at hg ⊢
  by_cases he : er = 0
  · have hd : ((er : Int) == 0) = true := by simp [he]
    by_cases hm : m < v
    · rw [if_pos ⟨he, hm⟩]
      have hm' : (m : Int) < v := by omega
      clear he
      go_enter Try.func114, Try.ntmps114
      go_wp2_with (go_at_call 128; refine (hg _).mono ?_; rintro e w2 ⟨rfl, rfl⟩)
      go_ret3
      exact ⟨rfl, rfl⟩
    · rw [if_neg (by omega)]
      have hm' : (v : Int) ≤ m := by omega
      clear hm
      have He := Lib.hid he
      clear he
      go_enter Try.func114, Try.ntmps114
      go_wp2_with (go_at_call 128; refine (hg _).mono ?_; rintro e w2 ⟨rfl, rfl⟩)
      go_ret3
      exact ⟨rfl, rfl⟩
  · have hd : ((er : Int) == 0) = false := by simp [he]
    rw [if_neg (by omega)]
    clear he
    go_enter Try.func114, Try.ntmps114
    go_wp2_with (go_at_call 128; refine (hg _).mono ?_; rintro e w2 ⟨rfl, rfl⟩)
    go_ret3
    exact ⟨rfl, rfl⟩
end Go.Proofs.Ytbfipgeoecbpaaa
/- Contracts of package sept and of the reference of layer 4. -/
namespace Go.Proofs.Ytbfipgeoecbpaaa
open Go.RowKit
set_option maxRecDepth 20000
theorem sfits_any (n : Nat) (hn : n < U64) (count : Int) (w : World) :
    Calls Try.prog 99 #[.int .u64 n, .int .i64 count] w fun e w' => e = .returned (.bool (fitsB n count)) ∧ w = w' := by
  by_cases h1 : 1 ≤ count
  · by_cases h2 : count ≤ 10
    · obtain ⟨c, rfl⟩ := Int.eq_ofNat_of_zero_le (show 0 ≤ count by omega)
      have hb := bl_fits n c hn (by omega)
      have hd : fitsB n c = decide (Lib.bitLen n ≤ 7 * c) := by
        rw [Bool.eq_iff_iff]
        simp [fitsB, hb]
        omega
      have hbl := bl_le n 64 (by omega) (by unfold U64 at hn; omega)
      rw [hd]
      clear hd hb
      go_enter Try.func99, Try.ntmps99
      go_wp2_with (go_at_call 121; refine (Try.bits_Len64 _ _ (by omega) (by unfold U64 at hn; omega)).mono ?_; rintro e w1 ⟨rfl, rfl⟩)
      go_ret
      refine ⟨ret_bool ?_, rfl⟩
      rw [Bool.eq_iff_iff]
      simp
      omega
    · have hd : fitsB n count = false := by simp [fitsB]; omega
      rw [hd]
      have h2' : 10 < count := by omega
      clear hd h2
      go_enter Try.func99, Try.ntmps99
      go_wp2
      go_ret
      exact ⟨rfl, rfl⟩
  · have hd : fitsB n count = false := by simp [fitsB]; omega
    rw [hd]
    have h1' : count < 1 := by omega
    clear hd h1
    go_enter Try.func99, Try.ntmps99
    go_wp2
    go_ret
    exact ⟨rfl, rfl⟩
theorem and127u (m : Nat) (h : m < U64) : bits BinOp.and IntKind.u64 (m : Int) 127 = ((m % 128 : Nat) : Int) := by
  unfold U64 at h
  rw [show (127 : Int) = ((127 : Nat) : Int) from rfl, u64_and_nat _ _ (by omega) (by omega)]
  congr 1
  exact Nat.and_two_pow_sub_one_eq_mod m 7
theorem sput_nil (n c : Value) (w : World) : Calls Try.prog 72 #[.pointer none, n, c] w fun e w' => e = .returned (.int .i64 16) ∧ w = w' := by
  go_enter Try.func72, Try.ntmps72
  go_wp2
  go_ret
  exact ⟨rfl, rfl⟩
set_option maxHeartbeats 1000000 in
theorem sput_any {w : World} {b : Nat} {R : Nat → Prop} {l : List UInt8} (h : IsWr w b R l) (n : Nat) (hn : n < U64) (count : Int) (hlen : l.length + 10 ≤ 140737488355328) :
    Calls Try.prog 72 #[.pointer (some ⟨b, 0, none⟩), .int .u64 n, .int .i64 count] w fun e w' => e = .returned (.int .i64 (sput n count).1) ∧ WrPost w b R (l ++ (sput n count).2) w' := by
  have hfit := fun (x : World) => sfits_any n hn count x
  by_cases h1 : count < 1 ∨ 10 < count
  · have e : sput n count = (1, []) := by simp [sput, h1]
    rw [e]
    rcases h1 with h1 | h1
    · go_enter Try.func72, Try.ntmps72
      go_wp2
      go_ret
      exact ⟨rfl, by simpa using WrPost.start h⟩
    · have h1' : ¬ count < 1 := by omega
      go_enter Try.func72, Try.ntmps72
      go_wp2
      go_ret
      exact ⟨rfl, by simpa using WrPost.start h⟩
  · obtain ⟨c, rfl⟩ := Int.eq_ofNat_of_zero_le (show 0 ≤ count by omega)
    have h2 : 1 ≤ c := by omega
    have h3 : c ≤ 10 := by omega
    have h4 : (1 : Int) ≤ c := by omega
    have h5 : (c : Int) ≤ 10 := by omega
    by_cases hf : n < 128 ^ c
    · have e : sput n c = (0, sep c n) := by simp [sput, h1, hf]
      have hfb : fitsB n c = true := by simp [fitsB, hf]; omega
      rw [e]
      rw [hfb] at hfit
      have Hf := Lib.hid hf
      have Hn := Lib.hid hn
      clear e hfb hf hn h1
      go_enter Try.func72, Try.ntmps72
      go_wp2_with (go_at_call 99; (with_reducible refine (hfit _).mono ?_); rintro e w1 ⟨rfl, rfl⟩)
      go_loopw [1, 23] (fun x i wr => ∃ (m k : Nat) (pre : List UInt8), i = .int .i64 k ∧ x = .int .u64 m ∧ k ≤ c ∧ m < U64 ∧ pre.length = k ∧ sep c n = pre ++ sep (c - k) m ∧ WrPost w b R (l ++ pre) wr) (fun _ i _ => c - (intOf i).toNat)
      case atStart => exact ⟨n, 0, [], rfl, rfl, by omega, Hn.out, rfl, rfl, by simpa using WrPost.start h⟩
      case round =>
        obtain ⟨m, k, pre, rfl, rfl, hk, hm, hp, hs, hw⟩ := hrel
        have Hp := Lib.hid hp
        have hp10 : pre.length ≤ k := by omega
        have Hs := Lib.hid hs
        have Hm := Lib.hid hm
        have Ha := Lib.hid (and127u m hm)
        clear hp hs hm
        by_cases hlt : k < c
        · have hput := put_one hw.1 (bits BinOp.and IntKind.u64 (m : Int) 127) (UInt8.ofNat (m % 128)) (by rw [Ha.out, byte_lo _ (Nat.mod_lt _ (by omega))]) (by simp; omega)
          have hcv : IntKind.u8.wrap (bits BinOp.and IntKind.u64 (m : Int) 127) = bits BinOp.and IntKind.u64 (m : Int) 127 := by
            rw [Ha.out, IntKind.wrap_u8]
            have := Nat.mod_lt m (show 128 > 0 by omega)
            omega
          go_wp2_with (go_at_call 100; (with_reducible refine hput.mono ?_); rintro e w' ⟨rfl, hw'⟩)
          go_roundw
          case rel =>
            have h3 := Hs.out
            rw [show c - k = (c - (k + 1)) + 1 from by omega, sep] at h3
            exact ⟨m / 128, k + 1, pre ++ [UInt8.ofNat (m % 128)], by go_num, by go_num, by omega, by have := Hm.out; unfold U64 at *; omega, by simp [Hp.out], by rw [h3]; simp, by rw [← List.append_assoc]; exact hw.trans hw'⟩
          case measure => simp [intOf]; omega
        · have hk' : k = c := by omega
          have Hk := Lib.hid hk'
          have hge : (c : Int) ≤ k := by omega
          clear hk'
          go_wp2_with fail
          go_ret
          refine ⟨rfl, ?_⟩
          rw [Hs.out, Hk.out]
          simpa [sep] using hw
    · have e : sput n c = (5, []) := by simp [sput, h1, hf]
      have hfb : fitsB n c = false := by simp [fitsB, hf]
      rw [e]
      rw [hfb] at hfit
      clear e hfb hf hn h1
      go_enter Try.func72, Try.ntmps72
      go_wp2_with (go_at_call 99; (with_reducible refine (hfit _).mono ?_); rintro e w1 ⟨rfl, rfl⟩)
      go_ret
      exact ⟨rfl, by simpa using WrPost.start h⟩
theorem ssum_any {w : World} {b : Nat} {R : Nat → Prop} {l : List UInt8} (h : IsWr w b R l) (n : Nat) (hn : n < 4294967296) (hlen : l.length + 10 ≤ 140737488355328) :
    Calls Try.prog 73 #[.pointer (some ⟨b, 0, none⟩), .int .u32 n] w fun e w' => e = .returned (.tuple #[]) ∧ WrPost w b R (l ++ sep 5 n) w' := by
  have e : sput n 5 = (0, sep 5 n) := by
    have h1 : ¬ ((5 : Int) < 1 ∨ 10 < (5 : Int)) := by omega
    have h2 : n < 128 ^ (5 : Int).toNat := by show n < 128 ^ 5; omega
    unfold sput; rw [if_neg h1, if_pos h2]; rfl
  have hp := sput_any h n (by unfold U64; omega) 5 hlen
  rw [e] at hp
  have hw : IntKind.u64.wrap (n : Int) = n := by rw [IntKind.wrap_u64]; omega
  clear e
  go_enter Try.func73, Try.ntmps73
  go_wp2_with (go_at_call 72; (with_reducible refine hp.mono ?_); rintro e w1 ⟨rfl, hq⟩)
  go_end0
  exact ⟨rfl, hq⟩
theorem ssum_nil (n : Value) (x : Int) (hn : n = .int .u32 x) (w : World) : Calls Try.prog 73 #[.pointer none, n] w fun e w' => e = .returned (.tuple #[]) ∧ w = w' := by
  subst hn
  go_enter Try.func73, Try.ntmps73
  go_wp2_with (go_at_call 72; refine (sput_nil _ _ _).mono ?_; rintro e w1 ⟨rfl, rfl⟩)
  go_end0
  exact ⟨rfl, rfl⟩
theorem sget_nil (c : Value) (w : World) : Calls Try.prog 126 #[.pointer none, c] w fun e w' => e = .returned (.tuple #[.int .u64 0, .int .i64 16]) ∧ w = w' := by
  go_enter Try.func126, Try.ntmps126
  go_wp2
  go_ret2
  exact ⟨rfl, rfl⟩
set_option maxHeartbeats 2000000 in
theorem sget_any {w : World} {b : Nat} {s : ByteArray} {p : Nat} (h : IsRd w b s p) (hp : p ≤ s.size) (hs : s.size ≤ 140737488355328) (count : Int) :
    Calls Try.prog 126 #[.pointer (some ⟨b, 0, none⟩), .int .i64 count] w fun e w' => e = .returned (.tuple #[.int .u64 (sget s p count).1, .int .i64 (sget s p count).2.1]) ∧ RdPost w b s (sget s p count).2.2 w' := by
  by_cases h1 : count < 1 ∨ 10 < count
  · have e : sget s p count = (0, 1, p) := by simp [sget, h1]
    rw [e]
    rcases h1 with h1 | h1
    · go_enter Try.func126, Try.ntmps126
      go_wp2
      go_ret2
      exact ⟨rfl, rd_drewN h 0⟩
    · have h1' : ¬ count < 1 := by omega
      go_enter Try.func126, Try.ntmps126
      go_wp2
      go_ret2
      exact ⟨rfl, rd_drewN h 0⟩
  · obtain ⟨c, rfl⟩ := Int.eq_ofNat_of_zero_le (show 0 ≤ count by omega)
    have h2 : 1 ≤ c := by omega
    have h3 : c ≤ 10 := by omega
    have h4 : (1 : Int) ≤ c := by omega
    have h5 : (c : Int) ≤ 10 := by omega
    have e : sget s p c = sgo s p c 0 0 := by unfold sget; rw [if_neg h1]; rfl
    rw [e]
    clear e h1
    go_enter Try.func126, Try.ntmps126
    go_wp2_with (go_at_call 113; (with_reducible refine (at_any h).mono ?_); rintro e w1 ⟨rfl, j, rfl⟩)
    go_loopw [7, 24] (fun x i wr => ∃ (acc k : Nat), i = .int .i64 k ∧ x = .int .u64 acc ∧ k ≤ c ∧ acc < 128 ^ k ∧ p + k ≤ s.size ∧ sgo s p c 0 0 = sgo s p (c - k) k acc ∧ RdPost w b s (p + k) wr) (fun _ i _ => c - (intOf i).toNat)
    case atStart => exact ⟨0, 0, rfl, rfl, by omega, by omega, by omega, rfl, rd_drewN h j⟩
    case round =>
      obtain ⟨acc, k, rfl, rfl, hk, ha, hpk, he, hw⟩ := hrel
      have He := Lib.hid he
      have Ha := Lib.hid ha
      clear he ha
      have hby := byte_any hw.1 hpk hs
      by_cases hc : k < c
      · have hck : c - k = (c - (k + 1)) + 1 := by omega
        by_cases hlt : p + k < s.size
        · have e2 : by1 s (p + k) = ((s[p + k].toNat : Int), 0, p + k + 1) := by simp [by1, hlt]
          rw [e2] at hby
          simp only at hby
          clear e2
          obtain ⟨v, hv⟩ : ∃ v : Nat, v = s[p + k].toNat := ⟨_, rfl⟩
          have hvb : v < 256 := by rw [hv]; exact s[p + k].toNat_lt
          rw [← hv] at hby
          have Hv := Lib.hid hv
          have Hck := Lib.hid hck
          clear hv hck
          by_cases hz : 127 < v ∨ (k = 9 ∧ 1 < v)
          · have Hr := Lib.hid (He.out.trans ((by rw [Hck.out]) : sgo s p (c - k) k acc = sgo s p (c - (k + 1) + 1) k acc) |>.trans (sgo_bad hlt Hv.out hz))
            have hcase : (127 : Int) < v ∨ ((v : Int) ≤ 127 ∧ ((k : Int) == 9) = true ∧ (1 : Int) < v) := by simp; omega
            clear hz
            rcases hcase with h6 | ⟨h6, h7, h8⟩
            all_goals go_wp2_with (first | (go_at_call 134; (with_reducible refine hby.mono ?_); rintro e w' ⟨rfl, hw'⟩; have hR := hw'.1) | (go_at_call 108; (with_reducible refine (seek_any hR _).mono ?_); rintro e w3 ⟨rfl, hq4⟩))
            all_goals go_ret2
            all_goals rw [sk_ok s _ p hp] at hq4
            all_goals rw [Hr.out]
            all_goals exact ⟨rfl, rd_trans (rd_trans hw hw') hq4⟩
          · have Hr := Lib.hid (He.out.trans ((by rw [Hck.out]) : sgo s p (c - k) k acc = sgo s p (c - (k + 1) + 1) k acc) |>.trans (sgo_go hlt Hv.out hz))
            have Hb := Lib.hid (sacc_bits acc v k (by omega) Ha.out hz)
            have Hf := Lib.hid (sacc_fit acc v k (by omega) Ha.out hz)
            have h6 : (v : Int) ≤ 127 := by omega
            have hcase : ((k : Int) == 9) = false ∨ (((k : Int) == 9) = true ∧ (v : Int) ≤ 1) := by simp; omega
            clear hz
            rcases hcase with h7 | ⟨h7, h8⟩
            all_goals go_wp2_with (go_at_call 134; (with_reducible refine hby.mono ?_); rintro e w' ⟨rfl, hw'⟩)
            all_goals (
              go_roundw
              case rel => exact ⟨acc + v * 128 ^ k, k + 1, by go_num, congrArg _ Hb.out, by omega, Hf.out.2, by omega, Hr.out, rd_trans hw hw'⟩
              case measure => simp [intOf]; omega)
        · have e2 : by1 s (p + k) = (0, 2, p + k) := by simp [by1, hlt]
          rw [e2] at hby
          simp only at hby
          clear e2
          have Hr := Lib.hid (He.out.trans ((by rw [hck]) : sgo s p (c - k) k acc = sgo s p (c - (k + 1) + 1) k acc) |>.trans (sgo_end hlt))
          clear hck
          go_wp2_with (first | (go_at_call 134; (with_reducible refine hby.mono ?_); rintro e w' ⟨rfl, hw'⟩; have hR := hw'.1) | (go_at_call 108; (with_reducible refine (seek_any hR _).mono ?_); rintro e w3 ⟨rfl, hq4⟩))
          go_ret2
          rw [sk_ok s _ p hp] at hq4
          rw [Hr.out]
          exact ⟨rfl, rd_trans (rd_trans hw hw') hq4⟩
      · have hkc : k = c := by omega
        have Hkc := Lib.hid hkc
        have hge : (c : Int) ≤ k := by omega
        have Hr := Lib.hid (He.out.trans ((by rw [hkc]; simp [sgo]) : sgo s p (c - k) k acc = (acc, 0, p + k)))
        clear hkc
        go_wp2_with fail
        go_ret2
        rw [Hr.out]
        exact ⟨rfl, hw⟩
end Go.Proofs.Ytbfipgeoecbpaaa
/- Contracts of the reference of layer 4. -/
namespace Go.Proofs.Ytbfipgeoecbpaaa
open Go.RowKit
set_option maxRecDepth 20000
theorem ret2_sb {a a' : ByteArray} {b b' : Bool} (h : a = a') (h' : b = b') : Ending.returned (.tuple #[.string a, .bool b]) = .returned (.tuple #[.string a', .bool b']) := by rw [h, h']
theorem pow_div (k c n : Nat) (h : k < c) : n < 128 ^ (c - k) ↔ n / 128 < 128 ^ (c - (k + 1)) := by
  rw [show c - k = (c - (k + 1)) + 1 from by omega, Nat.pow_succ]
  rw [Nat.div_lt_iff_lt_mul (by omega)]
set_option maxHeartbeats 1000000 in
theorem r4print_any (n : Nat) (hn : n < U64) (c : Nat) (hc : c ≤ 10) (w : World) :
    Calls Try.prog 87 #[.int .u64 n, .int .i64 c] w fun e w' => e = .returned (.tuple #[.string ⟨(sep c n).toArray⟩, .bool (decide (n < 128 ^ c))]) ∧ Below w.heap.size w w' := by
  obtain ⟨i0, hi, hz0, hz1, hz2⟩ := info_parts info_u8
  have Hn := Lib.hid hn
  clear hn
  go_enter Try.func87, Try.ntmps87
  go_wp2
  go_loopw [0, 6, 7] (fun x o i wr => ∃ (m k : Nat) (pre : List UInt8) (ao : Option Addr) (cap : Nat), i = .int .i64 k ∧ x = .int .u64 m ∧ o = .slice ao pre.length cap ∧ k ≤ c ∧ m < U64 ∧ pre.length = k ∧ sep c n = pre ++ sep (c - k) m ∧ (n < 128 ^ c ↔ m < 128 ^ (c - k)) ∧ wr.ownsRow w.heap.size 5 1 (.slice ao pre.length cap) pre.length (bv pre) ∧ Below w.heap.size w wr) (fun _ _ i _ => c - (intOf i).toNat)
  case atStart =>
    refine ⟨n, 0, [], some ⟨w.heap.size, 0, none⟩, 0, rfl, rfl, rfl, by omega, Hn.out, rfl, rfl, Iff.rfl, ?_, (Below.refl _ _).alloc (Nat.le_refl _) _⟩
    exact World.ownsRow_lit w #[] 0 (Nat.le_refl _) (by decide) rfl
  case round =>
    obtain ⟨m, k, pre, ao, cap, rfl, rfl, rfl, hk, hm, hp, hs, hiff, hown, hb⟩ := hrel
    have hp10 : pre.length ≤ k := by omega
    have hsz := hb.size
    have Hp := Lib.hid hp
    have Hs := Lib.hid hs
    have Hm := Lib.hid hm
    have Hiff := Lib.hid hiff
    have Hq := Lib.hid (u64_quo m hm)
    clear hp hs hm hiff
    by_cases hlt : k < c
    · have hb1 : (m : Int) % 128 = ((UInt8.ofNat (m % 128)).toNat : Int) := by rw [byte_lo _ (Nat.mod_lt _ (by omega))]; omega
      have Hb1 := Lib.hid hb1
      clear hb1
      go_wp2_with (at_builtin; (refine list_append rfl (.tmp 14) (.tmp 18) 97 rfl w.heap.size (by simp; omega) 5 i0 (.int .u8 0) 1 1 ul_bytes hi hz0 hz1 hz2 rfl (by decide) (.slice ao pre.length cap) pre.length (bv pre) rfl (hown.alloc _) _ 1 (bv [UInt8.ofNat (m % 128)]) rfl rfl (src_one _ _ Hb1.out) (bv_one _) (by unfold maxLen; omega) (by omega) ?_); intro ao2 cap2 w1 hown' hg hat; rw [← bv_append] at hown')
      go_roundw
      case rel =>
        have h3 := Hs.out
        have h4 := Hiff.out
        rw [pow_div k c m hlt] at h4
        rw [show c - k = (c - (k + 1)) + 1 from by omega, sep] at h3
        have hb2 := below_append (hb.alloc (by omega) _) (hown.alloc _) hg (by simp; omega)
        exact ⟨m / 128, k + 1, pre ++ [UInt8.ofNat (m % 128)], ao2, cap2, by go_num, by rw [Hq.out]; go_num, by simp, by omega, by have := Hm.out; unfold U64 at *; omega, by simp [Hp.out], by rw [h3]; simp, h4, by simpa using hown', hb2⟩
      case measure => simp [intOf]; omega
    · have hk' : k = c := by omega
      have Hk := Lib.hid hk'
      have hge : (c : Int) ≤ k := by omega
      clear hk'
      have hcv := run_str_own' (P := Try.prog) (src := 97) (dst := 9) hown rfl ul_bytes (by kernel_rfl) ul_string
      go_wp2
      go_ret2
      refine ⟨?_, hb⟩
      refine ret2_sb ?_ ?_
      · rw [Hs.out, Hk.out]; simp [sep]
      · rw [Bool.eq_iff_iff]
        have h4 := Hiff.out
        rw [Hk.out] at h4
        simp at h4
        simp [h4]
set_option maxHeartbeats 2000000 in
theorem r4get_any {s : ByteArray} {p : Nat} (hp : p ≤ s.size) (hs : s.size ≤ 140737488355328) (count : Int) (w : World) :
    Calls Try.prog 95 #[.string s, .int .i64 p, .int .i64 count] w fun e w' => e = .returned (.tuple #[.int .u64 (sget s p count).1, .int .i64 (sget s p count).2.1, .int .i64 (sget s p count).2.2]) ∧ w = w' := by
  by_cases h1 : count < 1 ∨ 10 < count
  · have e : sget s p count = (0, 1, p) := by simp [sget, h1]
    rw [e]
    rcases h1 with h1 | h1
    · go_enter Try.func95, Try.ntmps95
      go_wp2
      go_ret3
      exact ⟨rfl, rfl⟩
    · have h1' : ¬ count < 1 := by omega
      go_enter Try.func95, Try.ntmps95
      go_wp2
      go_ret3
      exact ⟨rfl, rfl⟩
  · obtain ⟨c, rfl⟩ := Int.eq_ofNat_of_zero_le (show 0 ≤ count by omega)
    have h2 : 1 ≤ c := by omega
    have h3 : c ≤ 10 := by omega
    have h4 : (1 : Int) ≤ c := by omega
    have h5 : (c : Int) ≤ 10 := by omega
    have e : sget s p c = sgo s p c 0 0 := by unfold sget; rw [if_neg h1]; rfl
    rw [e]
    clear e h1
    go_enter Try.func95, Try.ntmps95
    go_wp2
    go_loop [9] (fun i => ∃ k : Nat, i = .int .i64 k ∧ k ≤ c ∧ p + k ≤ s.size ∧ acc8 s p k < 128 ^ k ∧ sgo s p c 0 0 = sgo s p (c - k) k (acc8 s p k)) (fun i => c - (intOf i).toNat)
    case atStart => exact ⟨0, rfl, by omega, by omega, by simp [acc8], rfl⟩
    case round =>
      obtain ⟨k, rfl, hk, hpk, ha, he⟩ := hrel
      have He := Lib.hid he
      have Ha := Lib.hid ha
      clear he ha
      by_cases hc : k < c
      · have hck : c - k = (c - (k + 1)) + 1 := by omega
        have Hck := Lib.hid hck
        clear hck
        by_cases hlt : p + k < s.size
        · obtain ⟨v, hv⟩ : ∃ v : Nat, v = s[p + k].toNat := ⟨_, rfl⟩
          have hvb : v < 256 := by rw [hv]; exact s[p + k].toNat_lt
          have Hbt := Lib.hid (show bt s (p + k) = v by rw [bt_of hlt, hv])
          have Hv := Lib.hid hv
          by_cases hz : 127 < v ∨ (k = 9 ∧ 1 < v)
          · have Hr := Lib.hid (He.out.trans ((by rw [Hck.out]) : sgo s p (c - k) k (acc8 s p k) = sgo s p (c - (k + 1) + 1) k (acc8 s p k)) |>.trans (sgo_bad hlt Hv.out hz))
            have hcase : (127 : Int) < s[p + k].toNat ∨ ((s[p + k].toNat : Int) ≤ 127 ∧ ((k : Int) == 9) = true ∧ (1 : Int) < s[p + k].toNat) := by rw [← hv]; simp; omega
            clear hz hv
            rcases hcase with h6 | ⟨h6, h7, h8⟩
            all_goals go_wp2
            all_goals go_ret3
            all_goals (rw [Hr.out]; exact ⟨rfl, rfl⟩)
          · have Hr := Lib.hid (He.out.trans ((by rw [Hck.out]) : sgo s p (c - k) k (acc8 s p k) = sgo s p (c - (k + 1) + 1) k (acc8 s p k)) |>.trans (sgo_go hlt Hv.out hz))
            have Hf := Lib.hid (sacc_fit (acc8 s p k) v k (by omega) Ha.out hz)
            have h6 : (s[p + k].toNat : Int) ≤ 127 := by rw [← hv]; omega
            have hcase : ((k : Int) == 9) = false ∨ (((k : Int) == 9) = true ∧ (s[p + k].toNat : Int) ≤ 1) := by rw [← hv]; simp; omega
            clear hz hv
            rcases hcase with h7 | ⟨h7, h8⟩
            all_goals go_wp2
            all_goals (
              go_round
              case rel => exact ⟨k + 1, by go_num, by omega, by omega, by rw [acc8, Hbt.out]; exact Hf.out.2, by rw [Hr.out, acc8, Hbt.out]⟩
              case measure => simp [intOf]; omega)
        · have Hr := Lib.hid (He.out.trans ((by rw [Hck.out]) : sgo s p (c - k) k (acc8 s p k) = sgo s p (c - (k + 1) + 1) k (acc8 s p k)) |>.trans (sgo_end hlt))
          go_wp2
          go_ret3
          rw [Hr.out]
          exact ⟨rfl, rfl⟩
      · have hkc : k = c := by omega
        subst hkc
        have Hr := Lib.hid (He.out.trans ((by simp [sgo]) : sgo s p (k - k) k (acc8 s p k) = (acc8 s p k, 0, p + k)))
        have H64 := Lib.hid (show acc8 s p k < U64 by have := sgo_lt s p k 0 0 (by omega) (by simp) (by unfold U64; omega); rw [Hr.out] at this; exact this)
        clear hc
        go_wp2
        go_loop [10, 11] (fun n i => ∃ (j m : Nat) (x : Int), i = .int .i64 x ∧ x = (j : Int) - 1 ∧ n = .int .u64 m ∧ j ≤ k ∧ m * 128 ^ j + acc8 s p j = acc8 s p k) (fun _ i => (intOf i + 1).toNat)
        case atStart => exact ⟨k, 0, _, rfl, by omega, rfl, by omega, by simp⟩
        case round =>
          obtain ⟨j, m, x, rfl, hx, rfl, hj, hh⟩ := hrel
          have Hh := Lib.hid hh
          have Hx := Lib.hid hx
          clear hh hx
          rcases Nat.eq_zero_or_pos j with hj0 | hj0
          · have hx1 : x < 0 := by have := Hx.out; omega
            have Hj := Lib.hid hj0
            clear hj0 hj
            go_wp2
            go_ret3
            refine ⟨?_, rfl⟩
            have h1 := Hh.out
            rw [Hj.out, Nat.pow_zero, Nat.mul_one, acc8] at h1
            rw [Hr.out]
            exact ret3_iii (by rw [← h1]; simp) rfl (by simp)
          · obtain ⟨jj, rfl⟩ : ∃ jj, j = jj + 1 := ⟨j - 1, by omega⟩
            obtain rfl : x = (jj : Int) := by have := Hx.out; omega
            have hlt2 : p + jj < s.size := by omega
            clear Hx
            go_wp2
            go_round
            case rel =>
              have h1 := horner8 s p k jj m Hh.out
              have h2 := horner8_lt s p k jj _ h1
              have h4 := H64.out
              rw [bt_of hlt2] at h1 h2
              refine ⟨jj, _, _, rfl, rfl, congrArg _ (?_ : _ = ((m * 128 + s[p + jj].toNat : Nat) : Int)), by omega, h1⟩
              have h5 := s[p + jj].toNat_lt
              simp only [IntKind.wrap_u64]
              unfold U64 at h4
              omega
            case measure => simp [intOf]
end Go.Proofs.Ytbfipgeoecbpaaa
/- More contracts of package cursor: Agree and Find; and of the reference of layer 1. Find asks that the library's own variable MaxLen holds some int. -/
namespace Go.Proofs.Ytbfipgeoecbpaaa
open Go.RowKit
set_option maxRecDepth 20000
/-- With how many bytes of the first list the second one goes on. -/
def agrL : List UInt8 → List UInt8 → Nat
  | a :: l, b :: m => if a = b then agrL l m + 1 else 0
  | _, _ => 0
def agree (s : ByteArray) (p : Nat) (t : ByteArray) : Nat := agrL t.data.toList (s.data.toList.drop p)
theorem agrL_le : ∀ (t r : List UInt8), agrL t r ≤ t.length ∧ agrL t r ≤ r.length
  | [], _ => ⟨Nat.zero_le _, Nat.zero_le _⟩
  | _ :: _, [] => ⟨Nat.zero_le _, Nat.zero_le _⟩
  | a :: l, b :: m => by
    have := agrL_le l m
    rw [agrL]
    split <;> simp <;> omega
theorem agrL_step {t r : List UInt8} {k : Nat} (h1 : k < t.length) (h2 : k < r.length) (he : t[k] = r[k]) : agrL (t.drop k) (r.drop k) = agrL (t.drop (k + 1)) (r.drop (k + 1)) + 1 := by
  rw [List.drop_eq_getElem_cons h1, List.drop_eq_getElem_cons h2, agrL, if_pos he]
theorem agrL_ne {t r : List UInt8} {k : Nat} (h1 : k < t.length) (h2 : k < r.length) (he : t[k] ≠ r[k]) : agrL (t.drop k) (r.drop k) = 0 := by
  rw [List.drop_eq_getElem_cons h1, List.drop_eq_getElem_cons h2, agrL, if_neg he]
theorem agrL_nil1 {t r : List UInt8} {k : Nat} (h1 : t.length ≤ k) : agrL (t.drop k) r = 0 := by
  rw [List.drop_eq_nil_of_le h1, agrL]
  intro _ _ _ _ h; cases h
theorem agrL_nil2 {t r : List UInt8} {k : Nat} (h1 : r.length ≤ k) : agrL t (r.drop k) = 0 := by
  rw [List.drop_eq_nil_of_le h1, agrL]
  intro _ _ _ _ _ h; cases h
theorem ba_get (s : ByteArray) (k : Nat) (h : k < s.size) : s.data.toList[k]'(by simpa using h) = s[k] := by simp; rfl
theorem agree_nil (t : Value) (w : World) : Calls Try.prog 123 #[.pointer none, t] w fun e w' => e = .returned (.int .i64 0) ∧ w = w' := by
  go_enter Try.func123, Try.ntmps123
  go_wp2
  go_ret
  exact ⟨rfl, rfl⟩
set_option maxHeartbeats 1000000 in
theorem agree_any {w : World} {b : Nat} {s : ByteArray} {p : Nat} (h : IsRd w b s p) (hp : p ≤ s.size) (_hs : s.size ≤ 140737488355328) (t : ByteArray) (ht : t.size ≤ 9223372036854775807) :
    Calls Try.prog 123 #[.pointer (some ⟨b, 0, none⟩), .string t] w fun e w' => e = .returned (.int .i64 (agree s p t)) ∧ ∃ n, w.drewN n = w' := by
  have h0 := h.c0
  have h1 := h.c1
  obtain ⟨r, hr⟩ : ∃ r, r = s.extract p s.size := ⟨_, rfl⟩
  have hrd : r.data.toList = s.data.toList.drop p := by
    rw [hr, Lib.extract_data]
    exact List.take_of_length_le (by simp)
  have hrs : r.size ≤ s.size := by rw [hr]; simp
  have Hag := Lib.hid (show agree s p t = agrL t.data.toList r.data.toList by rw [hrd]; rfl)
  have Hr := Lib.hid hr
  clear hr hrd
  go_enter Try.func123, Try.ntmps123
  go_wp2
  go_quiet (fail)
  go_wp2
  rw [← Hr.out]
  go_loopw [6] (fun n wr => ∃ k : Nat, n = .int .i64 k ∧ k ≤ t.size ∧ k ≤ r.size ∧ agrL t.data.toList r.data.toList = k + agrL (t.data.toList.drop k) (r.data.toList.drop k) ∧ ∃ j, wr = w.drewN j) (fun n _ => t.size - (intOf n).toNat)
  case atStart => exact ⟨0, rfl, by omega, by omega, by simp, _, rfl⟩
  case round =>
    obtain ⟨k, rfl, hk1, hk2, he, j, rfl⟩ := hrel
    have He := Lib.hid he
    clear he h0 h1
    have htl : t.data.toList.length = t.size := by simp
    have hrl : r.data.toList.length = r.size := by simp
    by_cases c1 : k < t.size
    · by_cases c2 : k < r.size
      · by_cases c3 : t[k] = r[k]
        · have hst := Lib.hid (agrL_step (t := t.data.toList) (r := r.data.toList) (k := k) (by omega) (by omega) (by rw [ba_get t k c1, ba_get r k c2]; exact c3))
          have hd : ((t[k].toNat : Int) == (r[k].toNat : Int)) = true := by simp [c3]
          clear htl hrl c3
          go_wp2
          go_quiet (fail)
          go_wp2
          go_roundw
          case rel => exact ⟨k + 1, by go_num, by omega, by omega, by rw [He.out, hst.out]; omega, _, rfl⟩
          case measure => simp [intOf]; omega
        · have hst := Lib.hid (agrL_ne (t := t.data.toList) (r := r.data.toList) (k := k) (by omega) (by omega) (by rw [ba_get t k c1, ba_get r k c2]; exact c3))
          have hd : ((t[k].toNat : Int) == (r[k].toNat : Int)) = false := by
            rw [beq_eq_false_iff_ne]; intro e; exact c3 (UInt8.toNat_inj.1 (Int.ofNat_inj.1 e))
          clear htl hrl c3
          go_wp2
          go_quiet (fail)
          go_wp2
          go_ret
          exact ⟨ret_int (by rw [Hag.out, He.out, hst.out]; simp), _, (World.drewN_drewN _ _ _).symm⟩
      · have hst := Lib.hid (agrL_nil2 (t := t.data.toList.drop k) (r := r.data.toList) (k := k) (by omega))
        have hd1 : decide ((k : Int) < r.size) = false := by simp; omega
        have hd2 : decide (k < r.size) = false := by simp; omega
        clear htl hrl
        go_wp2
        go_quiet (fail)
        go_wp2
        go_ret
        exact ⟨ret_int (by rw [Hag.out, He.out, hst.out]; simp), _, (World.drewN_drewN _ _ _).symm⟩
    · have hst := Lib.hid (agrL_nil1 (t := t.data.toList) (r := r.data.toList.drop k) (k := k) (by omega))
      have hd1 : decide ((k : Int) < t.size) = false := by simp; omega
      have hd2 : decide (k < t.size) = false := by simp; omega
      clear htl hrl
      go_wp2
      go_quiet (fail)
      go_wp2
      go_ret
      exact ⟨ret_int (by rw [Hag.out, He.out, hst.out]; simp), _, (World.drewN_drewN _ _ _).symm⟩
/-- Where t stands next, from p on; -1: nowhere. -/
def find (s : ByteArray) (p : Nat) (t : ByteArray) : Int := if Lib.index (s.data.toList.drop p) t.data.toList < 0 then -1 else p + Lib.index (s.data.toList.drop p) t.data.toList
end Go.Proofs.Ytbfipgeoecbpaaa
/- What one event's bytes are, in plain words. No program in sight. No condition. -/
namespace Go.Proofs.Ytbfipgeoecbpaaa
open Go.RowKit
def M32 : Nat := 4294967295
def opt (h : Bool) (s : ByteArray) (p : Nat) : Nat × Nat × Nat := if h = true then lmost s p M32 else (0, 0, p)
def n1 (s : ByteArray) (p : Nat) : Nat × Nat × Nat := lmost s (p + 1) M32
def n2 (s : ByteArray) (p : Nat) : Nat × Nat × Nat := lmost s (n1 s p).2.2 M32
def nA (s : ByteArray) (p : Nat) : Nat × Nat × Nat := opt (hasA (bt s p)) s (n2 s p).2.2
def nB (s : ByteArray) (p : Nat) : Nat × Nat × Nat := opt (hasB (bt s p)) s (nA s p).2.2
def nV (s : ByteArray) (p : Nat) : Nat × Nat × Nat := opt (hasV (bt s p)) s (nB s p).2.2
/-- The first error of an event's numbers. -/
def nxE (s : ByteArray) (p : Nat) : Nat :=
  if isK (bt s p) = true then (if (n1 s p).2.1 ≠ 0 then (n1 s p).2.1 else if (n2 s p).2.1 ≠ 0 then (n2 s p).2.1 else if (nA s p).2.1 ≠ 0 then (nA s p).2.1 else if (nB s p).2.1 ≠ 0 then (nB s p).2.1 else (nV s p).2.1) else 1
/-- By how much the cycles grow. -/
def nxG (s : ByteArray) (p : Nat) : Int := ((n1 s p).1 : Int) + unfoldV (n2 s p).1
/-- The event, behind these stamps. -/
def nxEv (cy ct : Nat) (s : ByteArray) (p : Nat) : Ev := ⟨bt s p, cy + (nxG s p).toNat, ct + (n1 s p).1, (nA s p).1, (nB s p).1, (nV s p).1⟩
def nxOk (cy ct : Nat) (s : ByteArray) (p : Nat) : Bool := decide (0 ≤ nxG s p) && (decide (ct + (n1 s p).1 < 18446744073709551616) && (decide (cy + (nxG s p).toNat < 18446744073709551616) && decide ((nxEv cy ct s p).chk = 0)))
def nxT (cy ct : Nat) (s : ByteArray) (p : Nat) : Int := if nxE s p = 0 then (if nxOk cy ct s p = true then 0 else 5) else (nxE s p : Int)
theorem lmost_le {s : ByteArray} {p m : Nat} (h : (lmost s p m).2.1 = 0) : (lmost s p m).1 ≤ m := by
  unfold lmost at *
  split at h
  · cases h
  · rename_i hn
    rw [if_neg hn]
    rcases Nat.lt_or_ge m (lget s p).1 with h2 | h2
    · exact absurd ⟨h, h2⟩ hn
    · exact h2
theorem opt_le {h : Bool} {s : ByteArray} {p : Nat} (e : (opt h s p).2.1 = 0) : (opt h s p).1 ≤ M32 := by
  unfold opt at *
  split
  · rename_i hh
    rw [if_pos hh] at e
    exact lmost_le e
  · exact Nat.zero_le _
theorem opt_next {h : Bool} {s : ByteArray} {p : Nat} (hp : p ≤ s.size) : (opt h s p).2.2 ≤ s.size := by
  unfold opt
  split
  · exact lmost_next s p _ hp
  · exact hp
theorem n1_next {s : ByteArray} {p : Nat} (hp : p < s.size) : (n1 s p).2.2 ≤ s.size := lmost_next s _ _ hp
theorem n2_next {s : ByteArray} {p : Nat} (hp : p < s.size) : (n2 s p).2.2 ≤ s.size := lmost_next s _ _ (n1_next hp)
theorem nA_next {s : ByteArray} {p : Nat} (hp : p < s.size) : (nA s p).2.2 ≤ s.size := opt_next (n2_next hp)
theorem nB_next {s : ByteArray} {p : Nat} (hp : p < s.size) : (nB s p).2.2 ≤ s.size := opt_next (nA_next hp)
theorem nV_next {s : ByteArray} {p : Nat} (hp : p < s.size) : (nV s p).2.2 ≤ s.size := opt_next (nB_next hp)
end Go.Proofs.Ytbfipgeoecbpaaa
/- What some bytes are, behind a base, in plain words. No program in sight. No condition. -/
namespace Go.Proofs.Ytbfipgeoecbpaaa
open Go.RowKit
/-- The events from place p on (f: rounds that are left), and the error. -/
def rdL (s : ByteArray) : Nat → Nat → Nat → Nat → List Ev × Int
  | 0, _, _, _ => ([], 0)
  | f + 1, cy, ct, p =>
    if p < s.size then
      if nxT cy ct s p = 0 then
        ((nxEv cy ct s p) :: (rdL s f (nxEv cy ct s p).cy (nxEv cy ct s p).ct (nV s p).2.2).1, (rdL s f (nxEv cy ct s p).cy (nxEv cy ct s p).ct (nV s p).2.2).2)
      else ([], nxT cy ct s p)
    else ([], 0)
theorem lgo_ge (s : ByteArray) (p : Nat) : ∀ (f k acc : Nat), p ≤ (lgo s p f k acc).2.2
  | 0, _, _ => Nat.le_refl _
  | f + 1, k, acc => by
    rw [lgo]
    split
    · split
      · exact Nat.le_refl _
      · split
        · show p ≤ p + k + 1
          omega
        · exact lgo_ge s p f _ _
    · exact Nat.le_refl _
theorem lmost_ge (s : ByteArray) (p m : Nat) : p ≤ (lmost s p m).2.2 := by
  unfold lmost
  split
  · exact Nat.le_refl _
  · exact lgo_ge s p 10 0 0
theorem opt_ge (h : Bool) (s : ByteArray) (p : Nat) : p ≤ (opt h s p).2.2 := by
  unfold opt
  split
  · exact lmost_ge s p _
  · exact Nat.le_refl _
theorem nV_gt (s : ByteArray) (p : Nat) : p < (nV s p).2.2 := by
  have h1 : p + 1 ≤ (n1 s p).2.2 := lmost_ge s _ _
  have h2 : (n1 s p).2.2 ≤ (n2 s p).2.2 := lmost_ge s _ _
  have h3 : (n2 s p).2.2 ≤ (nA s p).2.2 := opt_ge _ s _
  have h4 : (nA s p).2.2 ≤ (nB s p).2.2 := opt_ge _ s _
  have h5 : (nB s p).2.2 ≤ (nV s p).2.2 := opt_ge _ s _
  omega
end Go.Proofs.Ytbfipgeoecbpaaa
/- Plain laws of events' bytes: what is printed is read, what is read is printed, the lengths, the runs. No program in sight. No condition. -/
namespace Go.Proofs.Ytbfipgeoecbpaaa
open Go.RowKit
set_option maxRecDepth 20000

theorem lget_at {s : ByteArray} {p n : Nat} {post : List UInt8} (hn : n < U64) (hd : s.data.toList.drop p = leb 10 n ++ post) : lget s p = (n, 0, p + (leb 10 n).length) := by
  have := lgo_back s p 9 n 0 0 post rfl (u64_pow n hn) (by simpa using hn) (fun h => absurd h (by omega)) (by simpa using hd)
  simpa [lget] using this
theorem lmost_at {s : ByteArray} {p n : Nat} {post : List UInt8} (hn : n ≤ M32) (hd : s.data.toList.drop p = leb 10 n ++ post) : lmost s p M32 = (n, 0, p + (leb 10 n).length) := by
  unfold lmost
  rw [lget_at (by unfold M32 at hn; unfold U64; omega) hd, if_neg (by simp only; omega)]
theorem opt_at {h : Bool} {s : ByteArray} {p n : Nat} {post : List UInt8} (hn : n ≤ M32) (h0 : h = false → n = 0) (hd : s.data.toList.drop p = (if h = true then leb 10 n else []) ++ post) :
    opt h s p = (n, 0, p + (if h = true then leb 10 n else []).length) := by
  unfold opt
  cases h
  · rw [h0 rfl]; rfl
  · simp only [if_true] at hd ⊢
    exact lmost_at hn hd
theorem drop_more {l a b : List UInt8} {p : Nat} (h : l.drop p = a ++ b) : l.drop (p + a.length) = b := by
  rw [← List.drop_drop, h]; simp
theorem chk_zero {e : Ev} (h : e.chk = 0) : (hasA e.k = false → e.a = 0) ∧ (hasB e.k = false → e.b = 0) ∧ (hasV e.k = false → e.v = 0) := by
  have h1 := (chk_ok h).2
  unfold Ev.okB at h1
  simp only [Bool.and_eq_true] at h1
  obtain ⟨ha, hb, hv, _⟩ := h1
  unfold hasA hasB hasV
  refine ⟨fun q => ?_, fun q => ?_, fun q => ?_⟩
  · have : (sh e.k).1 = 0 := by simpa using q
    rw [this] at ha
    simpa [wth] using ha
  · have : (sh e.k).2.1 = 0 := by simpa using q
    rw [this] at hb
    simpa [wth] using hb
  · have : (sh e.k).2.2 = 0 := by simpa using q
    rw [this] at hv
    simpa [wth] using hv
theorem isK_range {k : Int} (h : isK k = true) : 1 ≤ k ∧ k ≤ 24 := by simpa [isK] using h
/-- What was printed is read. -/
theorem next_back {b e : Ev} (he : e.Wf) (hs : (Stp b e).2.2 = true) (hc : e.chk = 0) {s : ByteArray} {p : Nat} {post : List UInt8} (hd : s.data.toList.drop p = evBytes b e ++ post) :
    nxT b.cy b.ct s p = 0 ∧ nxEv b.cy b.ct s p = e ∧ (nV s p).2.2 = p + (evBytes b e).length := by
  obtain ⟨h1, h2, h3, h4, h5, h6, h7⟩ := stp_yes hs
  have hk := (chk_ok hc).1
  have hkr := isK_range hk
  obtain ⟨zA, zB, zV⟩ := chk_zero hc
  unfold evBytes at hd ⊢
  generalize (Stp b e).1 = st at *
  generalize (Stp b e).2.1 = d at *
  unfold one at hd ⊢
  simp only [List.append_assoc] at hd
  obtain ⟨hlt, hb0⟩ := at_drop hd
  have hbt : ((bt s p : Nat) : Int) = e.k := by
    rw [bt_of hlt, hb0]
    simp; omega
  have d1 := drop_more hd
  simp only [List.length_singleton] at d1
  have e1 : n1 s p = (st, 0, p + 1 + (leb 10 st).length) := lmost_at (by unfold M32; omega) d1
  have d2 := drop_more d1
  have hf : foldV d ≤ M32 := by unfold foldV M32; split <;> omega
  have e2 : n2 s p = (foldV d, 0, p + 1 + (leb 10 st).length + (leb 10 (foldV d)).length) := by
    unfold n2; rw [e1]; exact lmost_at hf d2
  have d3 := drop_more d2
  have ea : nA s p = (e.a, 0, p + 1 + (leb 10 st).length + (leb 10 (foldV d)).length + (if hasA e.k = true then leb 10 e.a else []).length) := by
    unfold nA; rw [e2, hbt]; exact opt_at (by have := he.a; unfold M32; omega) zA d3
  have d4 := drop_more d3
  have eb : nB s p = (e.b, 0, p + 1 + (leb 10 st).length + (leb 10 (foldV d)).length + (if hasA e.k = true then leb 10 e.a else []).length + (if hasB e.k = true then leb 10 e.b else []).length) := by
    unfold nB; rw [ea, hbt]; exact opt_at (by have := he.b; unfold M32; omega) zB d4
  have d5 := drop_more d4
  have ev : nV s p = (e.v, 0, p + 1 + (leb 10 st).length + (leb 10 (foldV d)).length + (if hasA e.k = true then leb 10 e.a else []).length + (if hasB e.k = true then leb 10 e.b else []).length + (if hasV e.k = true then leb 10 e.v else []).length) := by
    unfold nV; rw [eb, hbt]; exact opt_at (by have := he.v; unfold M32; omega) zV d5
  have hE : nxE s p = 0 := by
    unfold nxE; rw [hbt, e1, e2, ea, eb, ev, hk]; rfl
  have hG : nxG s p = ((e.cy - b.cy : Nat) : Int) := by
    unfold nxG; rw [e1, e2, unfold_fold]; simp only; omega
  have hEv : nxEv b.cy b.ct s p = e := by
    unfold nxEv
    rw [hbt, hG, e1, ea, eb, ev]
    obtain ⟨k, cy, ct, a, bb, v⟩ := e
    simp only [Ev.mk.injEq, true_and, and_true] at *
    refine ⟨?_, ?_⟩ <;> omega
  have hOk : nxOk b.cy b.ct s p = true := by
    unfold nxOk
    rw [hEv, hG, e1, hc]
    have := he.cy
    have := he.ct
    simp only [Bool.and_eq_true, decide_eq_true_eq, Int.toNat_natCast, and_true]
    exact ⟨by omega, by omega, by omega⟩
  refine ⟨by unfold nxT; rw [if_pos hE, if_pos hOk], hEv, ?_⟩
  rw [ev]
  simp only [List.length_append, List.length_singleton]
  omega

/-- What is got was spelled so. -/
theorem lgo_spell (s : ByteArray) (p : Nat) : ∀ (f k acc n q : Nat), f + k = 9 → lgo s p (f + 1) k acc = (n, 0, q) →
    ∃ m post, n = acc + m * 128 ^ k ∧ (0 < k → 0 < m) ∧ m < 128 ^ (f + 1) ∧ q = p + k + (leb (f + 1) m).length ∧ s.data.toList.drop (p + k) = leb (f + 1) m ++ post := by
  intro f
  induction f with
  | zero =>
    intro k acc n q hfk h
    rw [lgo] at h
    split at h
    · rename_i hlt
      split at h
      · cases h
      · rename_i hbad
        split at h
        · rename_i hl
          simp only [Prod.mk.injEq, true_and] at h
          obtain ⟨rfl, rfl⟩ := h
          refine ⟨s[p + k].toNat, s.data.toList.drop (p + k + 1), rfl, by omega, by simpa using hl, by rw [leb_last 0 _ hl]; rfl, ?_⟩
          rw [leb_last 0 _ hl, List.drop_eq_getElem_cons (by simpa using hlt)]
          simp
          rfl
        · omega
    · cases h
  | succ f ih =>
    intro k acc n q hfk h
    rw [lgo] at h
    split at h
    · rename_i hlt
      split at h
      · cases h
      · rename_i hbad
        have hc256 := s[p + k].toNat_lt
        split at h
        · rename_i hl
          simp only [Prod.mk.injEq, true_and] at h
          obtain ⟨rfl, rfl⟩ := h
          refine ⟨s[p + k].toNat, s.data.toList.drop (p + k + 1), rfl, by omega, ?_, by rw [leb_last _ _ hl]; rfl, ?_⟩
          · have : 128 ^ 1 ≤ 128 ^ (f + 1 + 1) := Nat.pow_le_pow_right (by omega) (by omega)
            omega
          · rw [leb_last _ _ hl, List.drop_eq_getElem_cons (by simpa using hlt)]
            simp
            rfl
        · rename_i hl
          obtain ⟨m, post, h1, h2, h3, h4, h5⟩ := ih (k + 1) _ n q (by omega) h
          have hm := h2 (by omega)
          refine ⟨m * 128 + s[p + k].toNat % 128, post, ?_, by omega, by rw [Nat.pow_succ]; omega, ?_, ?_⟩
          · rw [h1, Nat.pow_succ, Nat.add_mul, Nat.mul_assoc m 128, Nat.mul_comm 128 (128 ^ k)]
            omega
          · rw [leb_more _ _ (by omega), List.length_cons, show (m * 128 + s[p + k].toNat % 128) / 128 = m from by omega, h4]
            omega
          · rw [leb_more _ _ (by omega), show (m * 128 + s[p + k].toNat % 128) / 128 = m from by omega, show (m * 128 + s[p + k].toNat % 128) % 128 + 128 = s[p + k].toNat from by omega, List.cons_append, ← h5,
              List.drop_eq_getElem_cons (by simpa using hlt)]
            simp
            exact ⟨rfl, rfl⟩
    · cases h
theorem lget_spell {s : ByteArray} {p n q : Nat} (h : lget s p = (n, 0, q)) : q = p + (leb 10 n).length ∧ ∃ post, s.data.toList.drop p = leb 10 n ++ post := by
  obtain ⟨m, post, h1, _, _, h4, h5⟩ := lgo_spell s p 9 0 0 n q rfl h
  obtain rfl : m = n := by omega
  exact ⟨by simpa using h4, post, by simpa using h5⟩
theorem lmost_spell {s : ByteArray} {p : Nat} (h : (lmost s p M32).2.1 = 0) : (lmost s p M32).2.2 = p + (leb 10 (lmost s p M32).1).length ∧ ∃ post, s.data.toList.drop p = leb 10 (lmost s p M32).1 ++ post := by
  unfold lmost at *
  split at h
  · cases h
  · rename_i hn
    rw [if_neg hn]
    generalize hg : lget s p = g at *
    obtain ⟨n, er, q⟩ := g
    simp only at h
    subst h
    exact lget_spell hg
theorem opt_spell {h : Bool} {s : ByteArray} {p : Nat} (e : (opt h s p).2.1 = 0) : (opt h s p).2.2 = p + (if h = true then leb 10 (opt h s p).1 else []).length ∧ ∃ post, s.data.toList.drop p = (if h = true then leb 10 (opt h s p).1 else []) ++ post := by
  unfold opt at *
  cases h
  · exact ⟨rfl, _, rfl⟩
  · simp only [if_true] at e ⊢
    exact lmost_spell e
theorem nxT_zero {cy ct : Nat} {s : ByteArray} {p : Nat} (h : nxT cy ct s p = 0) : isK (bt s p) = true ∧ (n1 s p).2.1 = 0 ∧ (n2 s p).2.1 = 0 ∧ (nA s p).2.1 = 0 ∧ (nB s p).2.1 = 0 ∧ (nV s p).2.1 = 0 ∧ nxOk cy ct s p = true := by
  have hE : nxE s p = 0 := by
    unfold nxT at h
    split at h
    · assumption
    · omega
  have hO : nxOk cy ct s p = true := by
    unfold nxT at h
    rw [if_pos hE] at h
    split at h
    · assumption
    · cases h
  unfold nxE at hE
  split at hE
  · rename_i hk
    by_cases a1 : (n1 s p).2.1 = 0
    · by_cases a2 : (n2 s p).2.1 = 0
      · by_cases a3 : (nA s p).2.1 = 0
        · by_cases a4 : (nB s p).2.1 = 0
          · rw [if_neg (by omega), if_neg (by omega), if_neg (by omega), if_neg (by omega)] at hE
            exact ⟨hk, a1, a2, a3, a4, hE, hO⟩
          · rw [if_neg (by omega), if_neg (by omega), if_neg (by omega), if_pos a4] at hE
            exact absurd hE a4
        · rw [if_neg (by omega), if_neg (by omega), if_pos a3] at hE
          exact absurd hE a3
      · rw [if_neg (by omega), if_pos a2] at hE
        exact absurd hE a2
    · rw [if_pos a1] at hE
      exact absurd hE a1
  · cases hE
theorem drop_join {l a b c : List UInt8} {p : Nat} (h : l.drop p = a ++ b) (h2 : l.drop (p + a.length) = c) : l.drop p = a ++ c := by
  rw [← h2, drop_more h, h]
theorem drop_join' {l a b c : List UInt8} {p q : Nat} (h : l.drop p = a ++ b) (hq : q = p + a.length) (h2 : l.drop q = c) : l.drop p = a ++ c := drop_join h (hq ▸ h2)
/-- What was read is printed. -/
theorem next_spell {b : Ev} {s : ByteArray} {p : Nat} (hp : p < s.size) (h : nxT b.cy b.ct s p = 0) :
    (nxEv b.cy b.ct s p).chk = 0 ∧ (nxEv b.cy b.ct s p).Wf ∧ (Stp b (nxEv b.cy b.ct s p)).2.2 = true ∧ (nV s p).2.2 = p + (evBytes b (nxEv b.cy b.ct s p)).length ∧ ∃ post, s.data.toList.drop p = evBytes b (nxEv b.cy b.ct s p) ++ post := by
  obtain ⟨hk, a1, a2, a3, a4, a5, hO⟩ := nxT_zero h
  have hkr := isK_range hk
  have l1 : (n1 s p).1 ≤ M32 := lmost_le a1
  have l2 : (n2 s p).1 ≤ M32 := lmost_le a2
  have la : (nA s p).1 ≤ M32 := opt_le a3
  have lb : (nB s p).1 ≤ M32 := opt_le a4
  have lv : (nV s p).1 ≤ M32 := opt_le a5
  unfold M32 at l1 l2 la lb lv
  unfold nxOk at hO
  simp only [Bool.and_eq_true, decide_eq_true_eq] at hO
  obtain ⟨o1, o2, o3, o4⟩ := hO
  have hS : Stp b (nxEv b.cy b.ct s p) = ((n1 s p).1, unfoldV (n2 s p).1, true) := by
    unfold Stp nxEv
    simp only
    have hu : unfoldV (n2 s p).1 ≤ 2147483647 ∧ -2147483648 ≤ unfoldV (n2 s p).1 := by unfold unfoldV; split <;> omega
    have hG : nxG s p = ((n1 s p).1 : Int) + unfoldV (n2 s p).1 := rfl
    generalize unfoldV (n2 s p).1 = u at hu hG ⊢
    generalize nxG s p = g at o1 o3 hG ⊢
    generalize (n1 s p).1 = n at l1 o2 hG ⊢
    rw [if_neg (by omega), show b.ct + n - b.ct = n from by omega, show b.cy + g.toNat - b.cy = g.toNat from by omega, if_neg (by omega)]
    simp only [Prod.mk.injEq, true_and, and_true]
    omega
  have hW : (nxEv b.cy b.ct s p).Wf := by
    constructor
    · show -9223372036854775808 ≤ ((bt s p : Nat) : Int); omega
    · show ((bt s p : Nat) : Int) ≤ 9223372036854775807; omega
    · exact o3
    · exact o2
    · show (nA s p).1 < 4294967296; omega
    · show (nB s p).1 < 4294967296; omega
    · show (nV s p).1 < 4294967296; omega
  obtain ⟨q1, r1, t1⟩ := lmost_spell (s := s) (p := p + 1) a1
  obtain ⟨q2, r2, t2⟩ := lmost_spell (s := s) (p := (n1 s p).2.2) a2
  obtain ⟨q3, r3, t3⟩ := opt_spell (h := hasA (bt s p)) (s := s) (p := (n2 s p).2.2) a3
  obtain ⟨q4, r4, t4⟩ := opt_spell (h := hasB (bt s p)) (s := s) (p := (nA s p).2.2) a4
  obtain ⟨q5, r5, t5⟩ := opt_spell (h := hasV (bt s p)) (s := s) (p := (nB s p).2.2) a5
  have t0 : s.data.toList.drop p = [UInt8.ofNat (bt s p)] ++ s.data.toList.drop (p + 1) := by
    rw [List.drop_eq_getElem_cons (by simpa using hp), bt_of hp]
    simp
    rfl
  have e5 := t5
  have e4 := drop_join' t4 q4 e5
  have e3 := drop_join' t3 q3 e4
  have e2 := drop_join' t2 q2 e3
  have e1 := drop_join' t1 q1 e2
  rw [e1] at t0
  refine ⟨o4, hW, by rw [hS], ?_, r5, ?_⟩
  · unfold evBytes
    rw [hS]
    unfold one
    simp only [fold_unfold, List.length_append, List.length_singleton]
    show (opt (hasV (bt s p)) s (nB s p).2.2).2.2 = _
    rw [q5]
    show (opt (hasB (bt s p)) s (nA s p).2.2).2.2 + _ = _
    rw [q4]
    show (opt (hasA (bt s p)) s (n2 s p).2.2).2.2 + _ + _ = _
    rw [q3]
    show (lmost s (n1 s p).2.2 M32).2.2 + _ + _ + _ = _
    rw [q2]
    show (lmost s (p + 1) M32).2.2 + _ + _ + _ + _ = _
    rw [q1]
    show p + 1 + (leb 10 (n1 s p).1).length + (leb 10 (n2 s p).1).length + (if hasA (bt s p) = true then leb 10 (nA s p).1 else []).length + (if hasB (bt s p) = true then leb 10 (nB s p).1 else []).length + (if hasV (bt s p) = true then leb 10 (nV s p).1 else []).length = p + (1 + (leb 10 (n1 s p).1).length + (leb 10 (n2 s p).1).length + (if hasA (bt s p) = true then leb 10 (nA s p).1 else []).length + (if hasB (bt s p) = true then leb 10 (nB s p).1 else []).length + (if hasV (bt s p) = true then leb 10 (nV s p).1 else []).length)
    omega
  · unfold evBytes
    rw [hS]
    unfold one
    simp only [fold_unfold, List.append_assoc]
    exact t0

/-- Events one behind the other, from a base. -/
def chB (b : Ev) : List Ev → List UInt8
  | [] => []
  | e :: l => evBytes b e ++ chB e l
def chOk (b : Ev) : List Ev → Prop
  | [] => True
  | e :: l => evErr b e = 0 ∧ e.Wf ∧ chOk e l
theorem evErr_ok {b e : Ev} : evErr b e = 0 ↔ e.chk = 0 ∧ (Stp b e).2.2 = true := by
  unfold evErr
  constructor
  · intro h
    split at h
    · split at h
      · exact ⟨by assumption, by assumption⟩
      · cases h
    · cases h
  · rintro ⟨h1, h2⟩
    rw [if_pos h1, if_pos h2]
theorem evb_pos (b e : Ev) : 3 ≤ (evBytes b e).length := (one_len e _ _).1
theorem rdL_back (s : ByteArray) : ∀ (l : List Ev) (b : Ev) (p f : Nat), chOk b l → s.data.toList.drop p = chB b l → p ≤ s.size → s.size - p ≤ f → rdL s f b.cy b.ct p = (l, 0)
  | [], b, p, f, _, hd, hp, hf => by
    have h0 : s.size ≤ p := by
      have := congrArg List.length hd
      simp [chB] at this
      have h2 : s.data.toList.length = s.size := by simp
      have h3 : s.data.size = s.size := rfl
      omega
    cases f with
    | zero => rfl
    | succ f => rw [rdL, if_neg (by omega)]
  | e :: l, b, p, f, ho, hd, hp, hf => by
    obtain ⟨h1, hw, h2⟩ := ho
    obtain ⟨hc, hs⟩ := evErr_ok.1 h1
    obtain ⟨t1, t2, t3⟩ := next_back hw hs hc hd
    have hl := evb_pos b e
    have hlen : (chB b (e :: l)).length = s.size - p := by
      rw [← hd]
      simp
    have hlen2 : (chB b (e :: l)).length = (evBytes b e).length + (chB e l).length := by rw [chB, List.length_append]
    cases f with
    | zero => omega
    | succ f =>
      rw [rdL, if_pos (by omega), if_pos t1, t2, t3]
      have := rdL_back s l e (p + (evBytes b e).length) f h2 (drop_more hd) (by omega) (by omega)
      rw [this]
theorem rdL_spell (s : ByteArray) : ∀ (f : Nat) (b : Ev) (p : Nat) (l : List Ev), p ≤ s.size → s.size - p ≤ f → rdL s f b.cy b.ct p = (l, 0) → s.data.toList.drop p = chB b l ∧ chOk b l
  | 0, b, p, l, hp, hf, h => by
    rw [rdL] at h
    obtain rfl : [] = l := (Prod.mk.inj h).1
    exact ⟨by simp [chB]; have : s.data.size = s.size := rfl; omega, trivial⟩
  | f + 1, b, p, l, hp, hf, h => by
    rw [rdL] at h
    split at h
    · rename_i hlt
      split at h
      · rename_i ht
        obtain ⟨a1, a2, a3, a4, post, a5⟩ := next_spell (b := b) hlt ht
        have hl := evb_pos b (nxEv b.cy b.ct s p)
        have hnx := nV_next hlt
        obtain ⟨b1, b2⟩ := rdL_spell s f (nxEv b.cy b.ct s p) (nV s p).2.2 _ hnx (by omega) (Prod.ext rfl (Prod.mk.inj h).2)
        obtain rfl := (Prod.mk.inj h).1
        refine ⟨?_, evErr_ok.2 ⟨a1, a3⟩, a2, b2⟩
        rw [chB, ← b1, a4, drop_more a5, a5]
      · rename_i ht
        exact absurd (Prod.mk.inj h).2 ht
    · obtain rfl : [] = l := (Prod.mk.inj h).1
      exact ⟨by simp [chB]; have : s.data.size = s.size := rfl; omega, trivial⟩
/-- Events by an index function, as a list. -/
theorem chB_snoc : ∀ (l : List Ev) (b e : Ev), chB b (l ++ [e]) = chB b l ++ evBytes (l.getLastD b) e
  | [], b, e => by simp [chB]
  | x :: l, b, e => by
    rw [List.cons_append, chB, chB, chB_snoc l x e, List.append_assoc, List.getLastD_cons]
theorem chOk_snoc : ∀ (l : List Ev) (b e : Ev), chOk b (l ++ [e]) ↔ chOk b l ∧ evErr (l.getLastD b) e = 0 ∧ e.Wf
  | [], b, e => by simp [chOk]
  | x :: l, b, e => by
    rw [List.cons_append, chOk, chOk, chOk_snoc l x e, List.getLastD_cons]
    constructor
    · rintro ⟨h1, h2, h3, h4⟩; exact ⟨⟨h1, h2, h3⟩, h4⟩
    · rintro ⟨⟨h1, h2, h3⟩, h4⟩; exact ⟨h1, h2, h3, h4⟩
theorem range_last (z : Nat → Ev) (n : Nat) : ((List.range n).map z).getLastD (z 0) = z (n - 1) := by
  cases n with
  | zero => rfl
  | succ n => rw [List.range_succ, List.map_append]; simp
theorem prnC_ch (z : Nat → Ev) : ∀ n, prnC z n = chB (z 0) ((List.range n).map z)
  | 0 => rfl
  | n + 1 => by
    rw [prnC, prnC_ch z n, List.range_succ, List.map_append, List.map_singleton, chB_snoc, range_last]
theorem prnE_ch (z : Nat → Ev) : ∀ n, (∀ i, i < n → (z i).Wf) → (prnE z n = 0 ↔ chOk (z 0) ((List.range n).map z))
  | 0, _ => ⟨fun _ => trivial, fun _ => rfl⟩
  | n + 1, hw => by
    rw [prnE, List.range_succ, List.map_append, List.map_singleton, chOk_snoc, range_last, ← prnE_ch z n (fun i hi => hw i (by omega))]
    constructor
    · intro h
      split at h
      · exact ⟨by assumption, h, hw n (by omega)⟩
      · exact absurd h (by assumption)
    · rintro ⟨h1, h2, _⟩
      rw [if_pos h1]; exact h2
theorem chOk_wf : ∀ (l : List Ev) (b : Ev), chOk b l → ∀ e ∈ l, e.Wf
  | [], _, _, _, h => by cases h
  | x :: l, b, ho, e, h => by
    rcases List.mem_cons.1 h with rfl | h
    · exact ho.2.1
    · exact chOk_wf l x ho.2.2 e h
theorem ch_base {b b' : Ev} (h1 : b.cy = b'.cy) (h2 : b.ct = b'.ct) : ∀ l : List Ev, chB b l = chB b' l ∧ (chOk b l ↔ chOk b' l)
  | [] => ⟨rfl, Iff.rfl⟩
  | e :: l => by
    have hs : Stp b e = Stp b' e := by unfold Stp; rw [h1, h2]
    unfold chB chOk evBytes evErr
    rw [hs]
    exact ⟨rfl, Iff.rfl⟩
theorem range_getD (l : List Ev) : (List.range l.length).map (fun i => l.getD i default) = l := by
  apply List.ext_getElem
  · simp
  · intro i h1 h2
    simp [List.getElem?_eq_getElem (by simpa using h1)]
/-- CoilBack, in plain words. -/
theorem coil_back (z : Nat → Ev) (n : Nat) (hw : ∀ i, i < n → (z i).Wf) (h : prnE z n = 0) (f : Nat) (hf : (prnC z n).length ≤ f) : rdL ⟨(prnC z n).toArray⟩ f (z 0).cy (z 0).ct 0 = ((List.range n).map z, 0) := by
  have hsz : (⟨(prnC z n).toArray⟩ : ByteArray).size = (prnC z n).length := by show (List.toArray _).size = _; simp
  refine rdL_back _ _ _ _ _ ((prnE_ch z n hw).1 h) ?_ (Nat.zero_le _) (by omega)
  simp [prnC_ch]
/-- CoilOne, in plain words. -/
theorem coil_one (s : ByteArray) (cy ct f : Nat) (l : List Ev) (hf : s.size ≤ f) (h : rdL s f cy ct 0 = (l, 0)) (h0 : 0 < l.length → (l.getD 0 default).cy = cy ∧ (l.getD 0 default).ct = ct) :
    (∀ i, i < l.length → (l.getD i default).Wf) ∧ prnE (fun i => l.getD i default) l.length = 0 ∧ prnC (fun i => l.getD i default) l.length = s.data.toList := by
  obtain ⟨h1, h2⟩ := rdL_spell s f ⟨0, cy, ct, 0, 0, 0⟩ 0 l (Nat.zero_le _) (by omega) h
  have hw : ∀ i, i < l.length → (l.getD i default).Wf := fun i hi => by
    have : l.getD i default = l[i] := by simp [List.getElem?_eq_getElem hi]
    rw [this]
    exact chOk_wf l _ h2 _ (List.getElem_mem hi)
  refine ⟨hw, ?_, ?_⟩
  · rw [prnE_ch _ _ hw, range_getD]
    cases l with
    | nil => trivial
    | cons e l =>
      obtain ⟨c1, c2⟩ := h0 (by simp)
      exact ((ch_base (b := ⟨0, cy, ct, 0, 0, 0⟩) c1.symm c2.symm _).2).1 h2
  · rw [prnC_ch, range_getD]
    simp only [List.drop_zero] at h1
    rw [h1]
    cases l with
    | nil => rfl
    | cons e l =>
      obtain ⟨c1, c2⟩ := h0 (by simp)
      exact ((ch_base (b := ⟨0, cy, ct, 0, 0, 0⟩) c1.symm c2.symm _).1).symm
/-- Lengths. -/
theorem leb_short : ∀ (j f n : Nat), n < 128 ^ (j + 1) → (leb f n).length ≤ j + 1
  | _, 0, _, _ => Nat.zero_le _
  | 0, f + 1, n, h => by rw [leb_last f n (by simpa using h)]; simp
  | j + 1, f + 1, n, h => by
    by_cases h1 : n < 128
    · rw [leb_last f n h1]; simp
    · rw [leb_more f n (by omega), List.length_cons]
      have := leb_short j f (n / 128) (pow_succ128 _ _ h)
      omega
def capO (o : Nat) : Nat := if o = 0 then 0 else if o = 1 then 5 else if o = 8 ∨ o = 9 ∨ o = 11 ∨ o = 12 then 2 else 1
theorem cap_le {o n : Nat} (ho : o ≤ 14) (hn : n < 4294967296) (h : wth n o = true) : (if (o != 0) = true then leb 10 n else []).length ≤ capO o := by
  have l5 := leb_short 4 10 n (by omega)
  have l2 := fun (q : n < 16384) => leb_short 1 10 n (by omega)
  have l1 := fun (q : n < 128) => leb_short 0 10 n (by omega)
  rcases o_cases ho with rfl | rfl | rfl | rfl | rfl | rfl | rfl | rfl | rfl | rfl | rfl | rfl | rfl | rfl | rfl
  all_goals simp only [wth, decide_eq_true_eq] at h
  all_goals simp [capO]
  · exact l5
  · exact l1 (by omega)
  · exact l1 (by omega)
  · exact l1 (by omega)
  · exact l1 (by omega)
  · exact l1 (by omega)
  · exact l1 (by omega)
  · exact l2 (by omega)
  · exact l2 (by omega)
  · exact l1 (by omega)
  · exact l2 (by omega)
  · exact l2 (by omega)
  · exact l1 (by omega)
  · exact l1 (by omega)
theorem cap_sum {k : Int} (h : isK k = true) : capO (sh k).1 + capO (sh k).2.1 + capO (sh k).2.2 ≤ 9 := by
  have hkr := isK_range h
  rcases k_cases hkr.1 hkr.2 with rfl | rfl | rfl | rfl | rfl | rfl | rfl | rfl | rfl | rfl | rfl | rfl | rfl | rfl | rfl | rfl | rfl | rfl | rfl | rfl | rfl | rfl | rfl | rfl <;> decide
theorem evb_le {b e : Ev} (he : e.Wf) (hs : (Stp b e).2.2 = true) (hc : e.chk = 0) : (evBytes b e).length ≤ 20 := by
  obtain ⟨h1, h2, h3, h4, h5, h6, h7⟩ := stp_yes hs
  obtain ⟨hk, ho⟩ := chk_ok hc
  have hf : foldV (Stp b e).2.1 < 4294967296 := by unfold foldV; split <;> omega
  have s1 := leb_short 4 10 (Stp b e).1 (by omega)
  have s2 := leb_short 4 10 (foldV (Stp b e).2.1) (by omega)
  have hsum := cap_sum hk
  unfold Ev.okB at ho
  simp only [Bool.and_eq_true] at ho
  obtain ⟨ha, hb, hv, _⟩ := ho
  obtain ⟨r1, r2, r3⟩ := sh_le e.k
  have ca := cap_le r1 he.a ha
  have cb := cap_le r2 he.b hb
  have cv := cap_le r3 he.v hv
  unfold evBytes one
  simp only [List.length_append, List.length_singleton]
  unfold hasA hasB hasV
  omega
theorem stp_self (a : Ev) : Stp a a = (0, 0, true) := by
  unfold Stp
  rw [if_neg (by omega), Nat.sub_self, Nat.sub_self, if_neg (by omega)]
  rfl
/-- Runs of 255. -/
def rn : Nat → List UInt8 → Option Nat
  | r, [] => some r
  | r, b :: l => if b.toNat = 255 then (if 4 < r + 1 then none else rn (r + 1) l) else rn 0 l
theorem rn_append : ∀ (l m : List UInt8) (r : Nat), rn r (l ++ m) = (rn r l).bind fun q => rn q m
  | [], m, r => rfl
  | b :: l, m, r => by
    rw [List.cons_append, rn, rn]
    split
    · split
      · rfl
      · exact rn_append l m _
    · exact rn_append l m _
theorem rn_seg {l m : List UInt8} (h1 : rn 0 l = some 0) (h2 : rn 0 m = some 0) : rn 0 (l ++ m) = some 0 := by
  rw [rn_append, h1]; exact h2
theorem rn_leb : ∀ (f n r : Nat), n < 128 ^ (f + 1) → r + f ≤ 4 → rn r (leb (f + 1) n) = some 0 := by
  intro f
  induction f with
  | zero =>
    intro n r hn hr
    have h1 : n < 128 := by simpa using hn
    rw [leb_last 0 n h1, rn, byte_lo n h1, if_neg (by omega)]
    rfl
  | succ f ih =>
    intro n r hn hr
    by_cases h1 : n < 128
    · rw [leb_last _ n h1, rn, byte_lo n h1, if_neg (by omega)]
      rfl
    · rw [leb_more _ n (by omega), rn, byte_hi]
      split
      · rw [if_neg (by omega)]
        exact ih _ _ (pow_succ128 _ _ hn) (by omega)
      · exact ih _ _ (pow_succ128 _ _ hn) (by omega)
theorem leb_fuel : ∀ (f n j : Nat), n < 128 ^ (f + 1) → leb (f + 1 + j) n = leb (f + 1) n := by
  intro f
  induction f with
  | zero =>
    intro n j hn
    have h1 : n < 128 := by simpa using hn
    rw [show 0 + 1 + j = j + 1 from by omega, leb_last _ n h1, leb_last _ n h1]
  | succ f ih =>
    intro n j hn
    by_cases h1 : n < 128
    · rw [show f + 1 + 1 + j = (f + 1 + j) + 1 from by omega, leb_last _ n h1, leb_last _ n h1]
    · rw [show f + 1 + 1 + j = (f + 1 + j) + 1 from by omega, leb_more _ n (by omega), leb_more _ n (by omega), ih _ _ (pow_succ128 _ _ hn)]
theorem rn_leb10 {n : Nat} (h : n < 4294967296) : rn 0 (leb 10 n) = some 0 := by
  rw [show (10 : Nat) = 4 + 1 + 5 from rfl, leb_fuel 4 n 5 (by omega)]
  exact rn_leb 4 n 0 (by omega) (by omega)
theorem rn_opt {h : Bool} {n : Nat} (hn : n < 4294967296) : rn 0 (if h = true then leb 10 n else []) = some 0 := by
  split
  · exact rn_leb10 hn
  · rfl
theorem rn_one {k : Int} (h : isK k = true) : rn 0 [UInt8.ofNat k.toNat] = some 0 := by
  have := isK_range h
  have h2 : (UInt8.ofNat k.toNat).toNat = k.toNat := by simp; omega
  rw [rn, h2, if_neg (by omega)]; rfl
theorem rn_evb {b e : Ev} (he : e.Wf) (hs : (Stp b e).2.2 = true) (hc : e.chk = 0) : rn 0 (evBytes b e) = some 0 := by
  obtain ⟨h1, h2, h3, h4, h5, h6, h7⟩ := stp_yes hs
  have hf : foldV (Stp b e).2.1 < 4294967296 := by unfold foldV; split <;> omega
  exact rn_seg (rn_seg (rn_seg (rn_seg (rn_seg (rn_one (chk_ok hc).1) (rn_leb10 (by omega))) (rn_leb10 hf)) (rn_opt he.a)) (rn_opt he.b)) (rn_opt he.v)
def loEnd (l : List UInt8) : Prop := ∀ c, l.getLast? = some c → c.toNat < 128
theorem lo_app {l m : List UInt8} (h1 : loEnd l) (h2 : loEnd m) : loEnd (l ++ m) := by
  intro c hc
  rw [List.getLast?_append] at hc
  cases hm : m.getLast? with
  | none => rw [hm] at hc; exact h1 c (by simpa using hc)
  | some d => rw [hm] at hc; exact h2 c (by rw [hm]; simpa using hc)
theorem lo_nil : loEnd [] := fun _ h => by cases h
theorem lo_leb : ∀ (f n : Nat), n < 128 ^ (f + 1) → loEnd (leb (f + 1) n) := by
  intro f
  induction f with
  | zero =>
    intro n hn c hc
    have h1 : n < 128 := by simpa using hn
    rw [leb_last 0 n h1] at hc
    obtain rfl : UInt8.ofNat n = c := by simpa using hc
    rw [byte_lo n h1]; exact h1
  | succ f ih =>
    intro n hn
    by_cases h1 : n < 128
    · intro c hc
      rw [leb_last _ n h1] at hc
      obtain rfl : UInt8.ofNat n = c := by simpa using hc
      rw [byte_lo n h1]; exact h1
    · rw [leb_more _ n (by omega)]
      intro c hc
      have hne : leb (f + 1) (n / 128) ≠ [] := fun h => by have := leb_pos f (n / 128); rw [h] at this; simp at this
      rw [List.getLast?_cons] at hc
      refine ih (n / 128) (pow_succ128 _ _ hn) c ?_
      rw [List.getLast?_eq_some_getLast hne] at hc ⊢
      simpa using hc
theorem lo_leb10 {n : Nat} (h : n < U64) : loEnd (leb 10 n) := lo_leb 9 n (u64_pow n h)
theorem lo_opt {h : Bool} {n : Nat} (hn : n < 4294967296) : loEnd (if h = true then leb 10 n else []) := by
  split
  · exact lo_leb10 (by unfold U64; omega)
  · exact lo_nil
theorem lo_evb {b e : Ev} (he : e.Wf) (hs : (Stp b e).2.2 = true) (hc : e.chk = 0) : loEnd (evBytes b e) := by
  obtain ⟨h1, h2, h3, h4, h5, h6, h7⟩ := stp_yes hs
  have hk := isK_range (chk_ok hc).1
  have hf : foldV (Stp b e).2.1 < 4294967296 := by unfold foldV; split <;> omega
  have h0 : loEnd [UInt8.ofNat e.k.toNat] := by
    intro c hc
    obtain rfl : UInt8.ofNat e.k.toNat = c := by simpa using hc
    have h2 : (UInt8.ofNat e.k.toNat).toNat = e.k.toNat := by simp; omega
    omega
  exact lo_app (lo_app (lo_app (lo_app (lo_app h0 (lo_leb10 (by unfold U64; omega))) (lo_leb10 (by unfold U64; omega))) (lo_opt he.a)) (lo_opt he.b)) (lo_opt he.v)
theorem ch_runs : ∀ (l : List Ev) (b : Ev), chOk b l → rn 0 (chB b l) = some 0 ∧ loEnd (chB b l)
  | [], _, _ => ⟨rfl, lo_nil⟩
  | e :: l, b, h => by
    obtain ⟨hc, hs⟩ := evErr_ok.1 h.1
    have := ch_runs l e h.2.2
    exact ⟨rn_seg (rn_evb h.2.1 hs hc) this.1, lo_app (lo_evb h.2.1 hs hc) this.2⟩
/-- CoilRuns, in plain words. -/
theorem coil_runs (z : Nat → Ev) (n : Nat) (hw : ∀ i, i < n → (z i).Wf) : rn 0 (prnS z n) = some 0 ∧ (prnE z n = 0 → loEnd (prnS z n)) := by
  unfold prnS
  split
  · rename_i h
    rw [prnC_ch]
    have := ch_runs _ _ ((prnE_ch z n hw).1 h)
    exact ⟨this.1, fun _ => this.2⟩
  · exact ⟨rfl, fun h => absurd h (by assumption)⟩
end Go.Proofs.Ytbfipgeoecbpaaa
