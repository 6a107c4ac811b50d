/- The walks of the statements of layer 4. -/
import Derived.Test.YtedbbmopckbfbaaRef4
import Derived.Deep.DeepMust
namespace Go.Proofs.Ytedbbmopckbfbaa
open Go.RowKit
set_option maxRecDepth 20000
set_option maxHeartbeats 1000000 in
theorem awake4 (w : World) : Calls Try.prog 28 #[] w fun e w' => e = .returned (.bool true) ∧ Below w.heap.size w w' := by
  have L1 : sget ⟨#[44, 2, 0]⟩ 0 3 = (300, 0, 3) := by decide +kernel
  have L2 : sput 300 2 = (0, [44, 2]) := by decide +kernel
  have L3 : sput 128 1 = (5, []) := by decide +kernel
  go_enter Try.func28, Try.ntmps28
  go_wp2_with (fail)
  refine (sput_any (IsWr.fresh w) 300 (by decide) 2 (by decide)).mono ?_
  rintro e w1 ⟨rfl, hw1⟩
  rw [L2] at hw1 ⊢
  have hB := kept_wrNew hw1 (fun _ h => h.elim)
  have hW := hw1.1
  have hsz := hw1.2.size
  rw [World.size_alloc] at hsz
  clear hw1
  go_wp2_with (fail)
  refine (sput_any hW 128 (by decide) 1 (by decide)).mono ?_
  rintro e w2 ⟨rfl, hw1⟩
  rw [L3] at hw1 ⊢
  have hB2 := bel_wr hB hw1 (Nat.le_refl _) (fun k hk => by simp at hk; omega) (by omega)
  have hW2 := hw1.1
  clear hw1 hB hW
  have hB := hB2
  have hW := hW2
  clear hB2 hW2
  go_wp2_with (first | (go_at_call 29; refine (new_any _ _).mono ?_; rintro e w2 ⟨rfl, rfl⟩) | (go_at_call 32; go_must (refine (sget_any (isRd_new _ _) (Nat.zero_le _) (by decide) 3).mono ?_); rintro e w3 ⟨rfl, hq⟩; have hk := kept_rdNew hq; have hB2 := bel_start hB hk; have hW2 := hW.kept hk; clear hq hk hB hW; have hB := hB2; have hW := hW2; clear hB2 hW2) | (go_at_call 22; go_must (refine (string_any hW).mono ?_); rintro e w4 ⟨rfl, n4, rfl⟩))
  go_ret
  exact ⟨rfl, below_drewN hB _⟩

theorem septNil_law (n c : Int) (w : World) (_hn : (Lit.int .u64 n).wf = true) (_hc : (Lit.int .i64 c).wf = true) : Calls Try.prog 8 #[.int .u64 n, .int .i64 c] w fun e w' => e = .returned (.bool true) ∧ Below w.heap.size w w' := by
  have hB := Below.refl w.heap.size w
  go_enter Try.func8, Try.ntmps8
  go_wp2_with (first | (go_at_call 32; (with_reducible refine (sget_nil _ _).mono ?_); rintro e w6 ⟨rfl, rfl⟩) | (go_at_call 35; (with_reducible refine (sput_nil _ _ _).mono ?_); rintro e w6 ⟨rfl, rfl⟩) | (go_at_call 28; (with_reducible refine (awake4 _).mono ?_); rintro e w5 ⟨rfl, hk⟩; have hB2 := bel_start hB hk; clear hk hB; have hB := hB2; clear hB2))
  go_ret
  exact ⟨rfl, hB⟩

set_option maxHeartbeats 2000000 in
theorem septGets_law (s : ByteArray) (at_ m : Int) (w : World) (hs : s.size ≤ maxLen) (_ha : (Lit.int .i64 at_).wf = true) (_hm : (Lit.int .i64 m).wf = true) : Calls Try.prog 6 #[.string s, .int .i64 at_, .int .i64 m] w fun e w' => e = .returned (.bool true) ∧ Below w.heap.size w w' := by
  unfold maxLen at hs
  have hB := Below.refl w.heap.size w
  by_cases hl : s.size ≤ 500
  · have hl' : s.size ≤ 140737488355328 := by omega
    have hd : decide ((500 : Int) < s.size) = false := by simp; omega
    obtain ⟨p, hp⟩ : ∃ p, p = (sk s 0 at_).2 := ⟨_, rfl⟩
    have hps : p ≤ s.size := by
      rw [hp]; unfold sk; split
      · simp
      · simp only; omega
    have hgn := (sget_next s p m hps).1
    have Hp := Lib.hid hp
    have hsk := fun (x : World) (b : Nat) (h : IsRd x b s 0) => seek_any h at_
    rw [← hp] at hsk
    clear hp hl
    go_enter Try.func6, Try.ntmps6
    go_wp2_with (first | (go_at_call 28; (with_reducible refine (awake4 _).mono ?_); rintro e w5 ⟨rfl, hk⟩; have hB2 := bel_start hB hk; clear hk hB; have hB := hB2; clear hB2))
    refine (new_any _ _).mono ?_
    rintro e w6 ⟨rfl, rfl⟩
    have hR := isRd_new s w5
    have hsz := hB.size
    have hB2 := hB.alloc hsz (.cells #[.string s, .int .i64 0] 89)
    clear hB
    have hB := hB2
    clear hB2
    obtain ⟨b, hb⟩ : ∃ b, b = w5.heap.size := ⟨_, rfl⟩
    rw [← hb] at hR hsz ⊢
    have Hb := Lib.hid hb
    clear hb
    generalize w5.alloc (.cells #[.string s, .int .i64 0] 89) = w7 at hR hB ⊢
    have hx := hB.size
    have hget := fun (x : World) (h : IsRd x b s p) => sget_any h hps hl' m
    have hrget := fun (x : World) => r4get_any hps hl' m x
    generalize sget s p m = g1 at hget hrget hgn
    go_wp2_with (first | (go_at_call 30; (with_reducible refine (hsk _ _ hR).mono ?_); rintro e w8 ⟨rfl, hq⟩; have hB2 := bel_rd hB hq hsz hx; have hR2 := hq.1; clear hq hB hR; have hB := hB2; have hR := hR2; clear hB2 hR2; have hx := hB.size) | (go_at_call 31; (with_reducible refine (at_any hR).mono ?_); rintro e w4 ⟨rfl, n4, rfl⟩; have hB2 := below_drewN hB n4; have hR2 := hR.drewN n4; clear hB hR; have hB := hB2; have hR := hR2; clear hB2 hR2; have hx := hB.size) | (go_at_call 32; (with_reducible refine (hget _ hR).mono ?_); rintro e w8 ⟨rfl, hq⟩; have hB2 := bel_rd hB hq hsz hx; have hR2 := hq.1; clear hq hB hR; have hB := hB2; have hR := hR2; clear hB2 hR2; have hx := hB.size) | (go_at_call 33; (with_reducible refine (hrget _).mono ?_); rintro e w9 ⟨rfl, rfl⟩))
    go_ret
    exact ⟨ret_bool (by simp), hB⟩
  · have hd : decide ((500 : Int) < s.size) = true := by simp; omega
    have hd' : (500 : Int) < s.size := by omega
    clear hl
    go_enter Try.func6, Try.ntmps6
    go_wp2_with (first | (go_at_call 28; (with_reducible refine (awake4 _).mono ?_); rintro e w5 ⟨rfl, hk⟩; have hB2 := bel_start hB hk; clear hk hB; have hB := hB2; clear hB2))
    go_ret
    exact ⟨rfl, hB⟩

set_option maxHeartbeats 2000000 in
theorem septSums_law (n : Int) (w : World) (hn : (Lit.int .u32 n).wf = true) : Calls Try.prog 9 #[.int .u32 n] w fun e w' => e = .returned (.bool true) ∧ Below w.heap.size w w' := by
  obtain ⟨n, rfl, hn1⟩ := u32_of hn
  have hu : n < U64 := by unfold U64; omega
  have e64 : IntKind.u64.wrap (n : Int) = (n : Int) := by rw [IntKind.wrap_u64]; omega
  have hf : n < 128 ^ 5 := by omega
  have hprint := fun (x : World) => r4print_any n hu 5 (by omega) x
  have hdec : decide (n < 128 ^ 5) = true := by simpa using hf
  rw [hdec] at hprint
  simp only [show ((5 : Nat) : Int) = 5 from rfl] at hprint
  have hg : sget ⟨(sep 5 n).toArray⟩ 0 5 = (n, 0, 5) := by simpa using sget_back ⟨(sep 5 n).toArray⟩ n 5 [] [] (by omega) (by omega) hf hu (by simp)
  have hgs : (⟨(sep 5 n).toArray⟩ : ByteArray).size = 5 := by show (List.toArray _).size = _; simp [sep_len]
  have hget := fun (x : World) (b : Nat) (h : IsRd x b ⟨(sep 5 n).toArray⟩ 0) => sget_any h (Nat.zero_le _) (by rw [hgs]; omega) 5
  rw [hg] at hget
  have hsum := fun (x : World) => ssum_any (IsWr.fresh x) n hn1 (by decide)
  clear hn hu hf hdec hg hgs hn1
  go_enter Try.func9, Try.ntmps9
  go_wp2_with fail
  refine (hsum _).mono ?_
  rintro e w1 ⟨rfl, hw⟩
  have hB := kept_wrNew hw (fun _ h => h.elim)
  have hW := hw.1
  clear hw
  go_wp2_with (first | (go_at_call 36; (with_reducible refine (ssum_nil _ _ rfl _).mono ?_); rintro e w6 ⟨rfl, rfl⟩) | (go_at_call 37; (with_reducible refine (hprint _).mono ?_); rintro e w5 ⟨rfl, hk⟩; have hB2 := bel_start hB hk; have hW2 := hW.kept hk; clear hk hB hW; have hB := hB2; have hW := hW2; clear hB2 hW2) | (go_at_call 22; (with_reducible refine (string_any hW).mono ?_); rintro e w4 ⟨rfl, n4, rfl⟩; have hB2 := below_drewN hB n4; have hW2 := hW.drewN n4; clear hB hW; have hB := hB2; have hW := hW2; clear hB2 hW2) | (go_at_call 29; refine (new_any _ _).mono ?_; rintro e w2 ⟨rfl, rfl⟩) | (go_at_call 32; (refine (hget _ _ (isRd_new _ _)).mono ?_); rintro e w3 ⟨rfl, hq⟩; have hk := kept_rdNew hq; have hB2 := bel_start hB hk; have hW2 := hW.kept hk; clear hq hk hB hW; have hB := hB2; have hW := hW2; clear hB2 hW2) | (go_at_call 28; (with_reducible refine (awake4 _).mono ?_); rintro e w5 ⟨rfl, hk⟩; have hB2 := bel_start hB hk; have hW2 := hW.kept hk; clear hk hB hW; have hB := hB2; have hW := hW2; clear hB2 hW2))
  go_ret
  exact ⟨ret_bool (by simp), hB⟩

set_option maxHeartbeats 2000000 in
theorem septPuts_law (n c : Int) (w : World) (hn : (Lit.int .u64 n).wf = true) (_hc : (Lit.int .i64 c).wf = true) : Calls Try.prog 12 #[.int .u64 n, .int .i64 c] w fun e w' => e = .returned (.bool true) ∧ Below w.heap.size w w' := by
  obtain ⟨n, rfl, hn1⟩ := u64_of hn
  have hput := fun (x : World) => sput_any (IsWr.fresh x) n hn1 c (by decide)
  have hfit := fun (x : World) => sfits_any n hn1 c x
  have hpr := fun (k : Nat) (hk : k ≤ 10) (x : World) => r4print_any n hn1 k hk x
  clear hn hn1
  have hcase : (c < 1 ∨ 10 < c) ∨ ∃ k : Nat, c = k ∧ 1 ≤ k ∧ k ≤ 10 := by
    rcases Int.lt_or_le c 1 with h | h
    · exact .inl (.inl h)
    · rcases Int.lt_or_le 10 c with h' | h'
      · exact .inl (.inr h')
      · exact .inr ⟨c.toNat, by omega, by omega, by omega⟩
  rcases hcase with hc | ⟨k, rfl, h1, h2⟩
  · have e1 : sput n c = (1, []) := by simp [sput, hc]
    have e2 : fitsB n c = false := by simp [fitsB]; omega
    rw [e1] at hput
    rw [e2] at hfit
    have hc2 : c < 1 ∨ (1 ≤ c ∧ 10 < c) := by omega
    clear hc e1 e2 hpr
    rcases hc2 with hc | ⟨hc, hc'⟩
    all_goals go_enter Try.func12, Try.ntmps12
    all_goals go_wp2_with fail
    all_goals refine (hput _).mono ?_
    all_goals rintro e w1 ⟨rfl, hw⟩
    all_goals have hB := kept_wrNew hw (fun _ h => h.elim)
    all_goals have hW := hw.1
    all_goals clear hw
    all_goals go_wp2_with (first | (go_at_call 28; (with_reducible refine (awake4 _).mono ?_); rintro e w5 ⟨rfl, hk⟩; have hB2 := bel_start hB hk; have hW2 := hW.kept hk; clear hk hB hW; have hB := hB2; have hW := hW2; clear hB2 hW2) | (go_at_call 39; (with_reducible refine (len_any hW).mono ?_); rintro e w4 ⟨rfl, n4, rfl⟩; have hB2 := below_drewN hB n4; have hW2 := hW.drewN n4; clear hB hW; have hB := hB2; have hW := hW2; clear hB2 hW2) | (go_at_call 34; (with_reducible refine (hfit _).mono ?_); rintro e w7 ⟨rfl, rfl⟩))
    all_goals go_ret
    all_goals exact ⟨ret_bool (by simp), hB⟩
  · have h3 : (1 : Int) ≤ k := by omega
    have h4 : (k : Int) ≤ 10 := by omega
    have hpr := fun (x : World) => hpr k h2 x
    by_cases hf : n < 128 ^ k
    · have e1 : sput n k = (0, sep k n) := by
        have : ¬ ((k : Int) < 1 ∨ 10 < (k : Int)) := by omega
        simp [sput, hf, this]
      have e2 : fitsB n k = true := by simp [fitsB, hf]; omega
      have e3 : decide (n < 128 ^ k) = true := by simpa using hf
      rw [e1] at hput
      rw [e2] at hfit
      rw [e3] at hpr
      clear hf e1 e2 e3 h1 h2
      go_enter Try.func12, Try.ntmps12
      go_wp2_with fail
      refine (hput _).mono ?_
      rintro e w1 ⟨rfl, hw⟩
      have hB := kept_wrNew hw (fun _ h => h.elim)
      have hW := hw.1
      clear hw
      go_wp2_with (first | (go_at_call 28; (with_reducible refine (awake4 _).mono ?_); rintro e w5 ⟨rfl, hk⟩; have hB2 := bel_start hB hk; have hW2 := hW.kept hk; clear hk hB hW; have hB := hB2; have hW := hW2; clear hB2 hW2) | (go_at_call 22; (with_reducible refine (string_any hW).mono ?_); rintro e w4 ⟨rfl, n4, rfl⟩; have hB2 := below_drewN hB n4; have hW2 := hW.drewN n4; clear hB hW; have hB := hB2; have hW := hW2; clear hB2 hW2) | (go_at_call 34; (with_reducible refine (hfit _).mono ?_); rintro e w7 ⟨rfl, rfl⟩) | (go_at_call 37; (with_reducible refine (hpr _).mono ?_); rintro e w5 ⟨rfl, hk⟩; have hB2 := bel_start hB hk; have hW2 := hW.kept hk; clear hk hB hW; have hB := hB2; have hW := hW2; clear hB2 hW2))
      go_ret
      exact ⟨ret_bool (by simp), hB⟩
    · have e1 : sput n k = (5, []) := by
        have : ¬ ((k : Int) < 1 ∨ 10 < (k : Int)) := by omega
        simp [sput, hf, this]
      have e2 : fitsB n k = false := by simp [fitsB, hf]
      have e3 : decide (n < 128 ^ k) = false := by simpa using hf
      rw [e1] at hput
      rw [e2] at hfit
      rw [e3] at hpr
      clear hf e1 e2 e3 h1 h2
      go_enter Try.func12, Try.ntmps12
      go_wp2_with fail
      refine (hput _).mono ?_
      rintro e w1 ⟨rfl, hw⟩
      have hB := kept_wrNew hw (fun _ h => h.elim)
      have hW := hw.1
      clear hw
      go_wp2_with (first | (go_at_call 28; (with_reducible refine (awake4 _).mono ?_); rintro e w5 ⟨rfl, hk⟩; have hB2 := bel_start hB hk; have hW2 := hW.kept hk; clear hk hB hW; have hB := hB2; have hW := hW2; clear hB2 hW2) | (go_at_call 39; (with_reducible refine (len_any hW).mono ?_); rintro e w4 ⟨rfl, n4, rfl⟩; have hB2 := below_drewN hB n4; have hW2 := hW.drewN n4; clear hB hW; have hB := hB2; have hW := hW2; clear hB2 hW2) | (go_at_call 34; (with_reducible refine (hfit _).mono ?_); rintro e w7 ⟨rfl, rfl⟩) | (go_at_call 37; (with_reducible refine (hpr _).mono ?_); rintro e w5 ⟨rfl, hk⟩; have hB2 := bel_start hB hk; have hW2 := hW.kept hk; clear hk hB hW; have hB := hB2; have hW := hW2; clear hB2 hW2))
      go_ret
      exact ⟨ret_bool (by simp), hB⟩

set_option maxHeartbeats 2000000 in
theorem septBack_law (n c : Int) (t : ByteArray) (w : World) (hn : (Lit.int .u64 n).wf = true) (_hc : (Lit.int .i64 c).wf = true) (ht : t.size ≤ maxLen) : Calls Try.prog 7 #[.int .u64 n, .int .i64 c, .string t] w fun e w' => e = .returned (.bool true) ∧ Below w.heap.size w w' := by
  obtain ⟨n, rfl, hn1⟩ := u64_of hn
  unfold maxLen at ht
  have hfit := fun (x : World) => sfits_any n hn1 c x
  have hB := Below.refl w.heap.size w
  clear hn
  by_cases hl : t.size ≤ 200
  · have hd : decide ((200 : Int) < t.size) = false := by simp; omega
    by_cases hf : fitsB n c = true
    · rw [hf] at hfit
      simp only [fitsB, Bool.and_eq_true, decide_eq_true_eq] at hf
      obtain ⟨k, rfl⟩ := Int.eq_ofNat_of_zero_le (show 0 ≤ c by omega)
      obtain ⟨h1, h2, h3⟩ := hf
      have h3' : n < 128 ^ k := h3
      have e1 : sput n k = (0, sep k n) := by
        have : ¬ ((k : Int) < 1 ∨ 10 < (k : Int)) := by omega
        simp [sput, h3', this]
      have hput := fun (x : World) => sput_any (IsWr.fresh x) n hn1 k (by decide)
      rw [e1] at hput
      obtain ⟨S, hS⟩ : ∃ S : ByteArray, S = ⟨(sep k n).toArray⟩ := ⟨_, rfl⟩
      have hSd : S.data.toList = sep k n := by rw [hS]
      have hSs : S.size = k := by rw [hS]; show (List.toArray _).size = _; simp [sep_len]
      have hlow : ∀ j (h : j < S.size), S[j].toNat < 128 := by
        intro j h
        have h6 : S[j] ∈ sep k n := by
          rw [← hSd]
          have h7 : j < S.data.toList.length := by simpa using h
          have h8 : S.data.toList[j] = S[j] := by simp; rfl
          rw [← h8]
          exact List.getElem_mem h7
        exact sep_low k n _ h6
      obtain ⟨T, hT⟩ : ∃ T : ByteArray, T = S ++ t := ⟨_, rfl⟩
      have hTd : T.data.toList = [] ++ sep k n ++ t.data.toList := by rw [hT]; simp [hSd]
      have hTs : T.size = k + t.size := by rw [hT]; simp [hSs]
      have hg : sget T 0 k = (n, 0, k) := by simpa using sget_back T n k [] t.data.toList (by omega) (by omega) h3' hn1 hTd
      have hget := fun (x : World) (b : Nat) (h : IsRd x b T 0) => sget_any h (Nat.zero_le _) (by rw [hTs]; omega) k
      rw [hg] at hget
      rw [hT] at hget
      have hsum : S.size + t.size ≤ 1000 := by omega
      have HS := Lib.hid hS
      have HSs := Lib.hid hSs
      have HT := Lib.hid hT
      have h10 : S.size ≤ 10 := by omega
      clear h3 h3' e1 hS hSd hSs hT hTd hTs hg hn1
      go_enter Try.func7, Try.ntmps7
      go_wp2_with (first | (go_at_call 28; (with_reducible refine (awake4 _).mono ?_); rintro e w5 ⟨rfl, hk⟩; have hB2 := bel_start hB hk; clear hk hB; have hB := hB2; clear hB2) | (go_at_call 34; (with_reducible refine (hfit _).mono ?_); rintro e w7 ⟨rfl, rfl⟩))
      refine (hput _).mono ?_
      rintro e w1 ⟨rfl, hw⟩
      have hB2 := bel_start hB (kept_wrNew hw (fun _ h => h.elim))
      have hW := hw.1
      clear hw hB
      have hB := hB2
      clear hB2
      go_wp2_with (go_at_call 22; (with_reducible refine (string_any hW).mono ?_); rintro e w4 ⟨rfl, n4, rfl⟩; have hB2 := below_drewN hB n4; clear hB hW; have hB := hB2; clear hB2)
      rw [← HS.out]
      go_loop [9] (fun i => ∃ j : Nat, i = .int .i64 j ∧ j ≤ S.size) (fun i => S.size - (intOf i).toNat)
      case atStart => exact ⟨0, rfl, by omega⟩
      case round =>
        obtain ⟨j, rfl, hj⟩ := hrel
        by_cases hlt : j < S.size
        · have hb := hlow j hlt
          have hb' : (S[j].toNat : Int) ≤ 127 := by omega
          clear hlow
          go_wp2
          go_round
          case rel => exact ⟨j + 1, by go_num, by omega⟩
          case measure => simp [intOf]; omega
        · clear hlow
          have hSk := HSs.out
          have hd3 : ((S.size : Int) == k) = true := by simp; omega
          clear hSk
          go_wp2_with (first | (go_at_call 29; refine (new_any _ _).mono ?_; rintro e w2 ⟨rfl, rfl⟩) | (go_at_call 32; (refine (hget _ _ (isRd_new _ _)).mono ?_); rintro e w3 ⟨rfl, hq⟩; have hk := kept_rdNew hq; have hB2 := bel_start hB hk; clear hq hk hB; have hB := hB2; clear hB2))
          go_ret
          exact ⟨ret_bool (by simp), hB⟩
    · rw [Bool.not_eq_true] at hf
      rw [hf] at hfit
      clear hf hn1
      go_enter Try.func7, Try.ntmps7
      go_wp2_with (first | (go_at_call 28; (with_reducible refine (awake4 _).mono ?_); rintro e w5 ⟨rfl, hk⟩; have hB2 := bel_start hB hk; clear hk hB; have hB := hB2; clear hB2) | (go_at_call 34; (with_reducible refine (hfit _).mono ?_); rintro e w7 ⟨rfl, rfl⟩))
      go_ret
      exact ⟨rfl, hB⟩
  · have hd : decide ((200 : Int) < t.size) = true := by simp; omega
    have hd' : (200 : Int) < t.size := by omega
    clear hl hn1 hfit
    go_enter Try.func7, Try.ntmps7
    go_wp2_with (first | (go_at_call 28; (with_reducible refine (awake4 _).mono ?_); rintro e w5 ⟨rfl, hk⟩; have hB2 := bel_start hB hk; clear hk hB; have hB := hB2; clear hB2))
    go_ret
    exact ⟨rfl, hB⟩

theorem bel_ex {B : Nat} {w x y : World} (h : Below B w x) (k : ∃ n, x.drewN n = y) : Below B w y := by
  obtain ⟨n, rfl⟩ := k
  exact below_drewN h n
theorem IsWr.ex {w y : World} {b : Nat} {R : Nat → Prop} {l : List UInt8} (h : IsWr w b R l) (k : ∃ n, w.drewN n = y) : IsWr y b R l := by
  obtain ⟨n, rfl⟩ := k
  exact h.drewN n
theorem IsRd.ex {w y : World} {b p : Nat} {s : ByteArray} (h : IsRd w b s p) (k : ∃ n, w.drewN n = y) : IsRd y b s p := by
  obtain ⟨n, rfl⟩ := k
  exact h.drewN n
set_option maxHeartbeats 2000000 in
theorem septOne_law (a b : Int) (s : ByteArray) (w : World) (ha : (Lit.int .u64 a).wf = true) (hb : (Lit.int .u64 b).wf = true) (hs : s.size ≤ maxLen) : Calls Try.prog 13 #[.int .u64 a, .int .u64 b, .string s] w fun e w' => e = .returned (.bool true) ∧ Below w.heap.size w w' := by
  obtain ⟨a, rfl, ha1⟩ := u64_of ha
  obtain ⟨b, rfl, hb1⟩ := u64_of hb
  unfold maxLen at hs
  have hB := Below.refl w.heap.size w
  clear ha hb
  by_cases hl : s.size ≤ 10
  · have hd : decide ((10 : Int) < s.size) = false := by simp; omega
    have sp10 : ∀ n, n < U64 → sput n 10 = (0, sep 10 n) := by
      intro n hn
      have h1 : ¬ ((10 : Int) < 1 ∨ 10 < (10 : Int)) := by omega
      have h2 : n < 128 ^ (10 : Int).toNat := u64_pow n hn
      unfold sput; rw [if_neg h1, if_pos h2]; rfl
    have hputA := fun (x : World) (bb : Nat) (R : Nat → Prop) (h : IsWr x bb R []) => sput_any h a ha1 10 (by decide)
    have hputB := fun (x : World) (bb : Nat) (R : Nat → Prop) (h : IsWr x bb R []) => sput_any h b hb1 10 (by decide)
    simp only [sp10 a ha1, sp10 b hb1] at hputA hputB
    have hEq : (sep 10 a == sep 10 b) = ((a : Int) == (b : Int)) := by
      rw [Bool.eq_iff_iff, beq_iff_eq, beq_iff_eq]
      exact ⟨fun h => congrArg Nat.cast (sep_inj a b 10 (u64_pow a ha1) (u64_pow b hb1) h), fun h => by rw [Int.ofNat_inj.1 h]⟩
    have hlA := sep_len 10 a
    have hlB := sep_len 10 b
    have hget := fun (x : World) (bb : Nat) (h : IsRd x bb s 0) => sget_any h (Nat.zero_le _) (by omega) s.size
    have hone : (sget s 0 s.size).2.1 = 0 → sput (sget s 0 s.size).1 s.size = (0, s.data.toList) := by
      intro h0
      unfold sget at h0 ⊢
      by_cases hc : (s.size : Int) < 1 ∨ 10 < (s.size : Int)
      · rw [if_pos hc] at h0; cases h0
      · rw [if_neg hc] at h0 ⊢
        obtain ⟨h1, m, h2, h3⟩ := sgo_one s 0 s.size 0 0 _ _ _ (by omega) (by simp) (Prod.ext rfl (Prod.ext rfl rfl) : sgo s 0 s.size 0 0 = (_, _, _)) h0
        have e1 : (s.size : Int).toNat = s.size := rfl
        rw [e1]
        simp only [Nat.zero_add, Nat.pow_zero, Nat.mul_one] at h1 h2
        unfold sput
        rw [if_neg hc, if_pos (by rw [e1]; exact h1), e1, h2, h3]
        have : s.data.toList.length = s.size := by simp
        rw [← this, Nat.zero_add, List.drop_zero, List.take_length]
    have hglt := sget_lt s 0 s.size
    generalize sget s 0 s.size = g at hget hone hglt
    obtain ⟨v, er, nx⟩ := g
    simp only at hget hone hglt
    have hputX := fun (x : World) => sput_any (IsWr.fresh x) v hglt s.size (by decide)
    have Hone := Lib.hid hone
    have HlA := Lib.hid hlA
    have HlB := Lib.hid hlB
    clear hone hglt hlA hlB ha1 hb1 sp10 hl
    go_enter Try.func13, Try.ntmps13
    go_wp2_with (first | (go_at_call 28; (with_reducible refine (awake4 _).mono ?_); rintro e w5 ⟨rfl, hk⟩; have hB2 := bel_start hB hk; clear hk hB; have hB := hB2; clear hB2))
    have h1 := (IsWr.fresh w5).alloc (.cells #[.slice none 0 0] 25)
    have h2 := IsWr.fresh (w5.alloc (.cells #[.slice none 0 0] 25))
    refine (hputA _ _ _ h1).mono ?_
    rintro e w1 ⟨rfl, hw1⟩
    have h3 := h2.only hw1.2 (by simp) (fun k hk hf => hf.elim)
    have e1 : (w5.alloc (Obj.cells #[Value.slice none 0 0] 25)).heap.size = w5.heap.size + 1 := by simp
    rw [e1] at h3
    go_wp2_with fail
    refine (hputB _ _ _ h3).mono ?_
    rintro e w2 ⟨rfl, hw2⟩
    have h4 := hw1.1.only hw2.2 (by simp) (fun k hk hr hs => by simp at hr hs; omega)
    have h5 := hw2.1
    have hk1 : Below w5.heap.size w5 w1 := (((((Only.refl (fun _ => False) w5).alloc _).alloc _).trans hw1.2 (fun i hi hs => by simp at hs; omega)).below (Nat.le_refl _) (fun _ _ x => x))
    have hk2 : Below w5.heap.size w5 w2 := (((Only.of_below hk1 (fun _ => False)).trans hw2.2 (fun i hi hs => by simp at hs; omega)).below (Nat.le_refl _) (fun _ _ x => x))
    have hB2 := bel_start hB hk2
    clear hB hw1 hw2 hk1 hk2 h1 h2 h3 hputA hputB
    have hB := hB2
    clear hB2
    have hlA : ([] ++ sep 10 a).length = 10 := HlA.out
    have hlB : ([] ++ sep 10 b).length = 10 := HlB.out
    have hlenA := fun (x : World) (bb : Nat) (R : Nat → Prop) (h : IsWr x bb R ([] ++ sep 10 a)) => len_any h
    have hlenB := fun (x : World) (bb : Nat) (R : Nat → Prop) (h : IsWr x bb R ([] ++ sep 10 b)) => len_any h
    simp only [hlA, hlB, show ((10 : Nat) : Int) = 10 from rfl] at hlenA hlenB
    clear hlA hlB
    by_cases he : er = 0
    · have hd1 : ((er : Int) != 0) = false := by simp [he]
      have hd2 : ((er : Int) == 0) = true := by simp [he]
      simp only [Hone.out he] at hputX
      clear he Hone
      go_wp2_with (first | (go_at_call 22; (with_reducible refine (string_any h4).mono ?_); rintro e w4 ⟨rfl, hn4⟩; have hB2 := bel_ex hB hn4; have h42 := h4.ex hn4; have h52 := h5.ex hn4; clear hB h4 h5 hn4; have hB := hB2; have h4 := h42; have h5 := h52; clear hB2 h42 h52) | (go_at_call 22; (with_reducible refine (string_any h5).mono ?_); rintro e w4 ⟨rfl, hn4⟩; have hB2 := bel_ex hB hn4; have h42 := h4.ex hn4; have h52 := h5.ex hn4; clear hB h4 h5 hn4; have hB := hB2; have h4 := h42; have h5 := h52; clear hB2 h42 h52) | (go_at_call 39; (with_reducible refine (hlenA _ _ _ h4).mono ?_); rintro e w4 ⟨rfl, hn4⟩; have hB2 := bel_ex hB hn4; have h42 := h4.ex hn4; have h52 := h5.ex hn4; clear hB h4 h5 hn4; have hB := hB2; have h4 := h42; have h5 := h52; clear hB2 h42 h52) | (go_at_call 39; (with_reducible refine (hlenB _ _ _ h5).mono ?_); rintro e w4 ⟨rfl, hn4⟩; have hB2 := bel_ex hB hn4; have h42 := h4.ex hn4; have h52 := h5.ex hn4; clear hB h4 h5 hn4; have hB := hB2; have h4 := h42; have h5 := h52; clear hB2 h42 h52) | (go_at_call 29; refine (new_any _ _).mono ?_; rintro e w2 ⟨rfl, rfl⟩) | (go_at_call 32; (refine (hget _ _ (isRd_new _ _)).mono ?_); rintro e w3 ⟨rfl, hq⟩; have hk := kept_rdNew hq; have hB2 := bel_start hB hk; clear hq hk hB h4 h5; have hB := hB2; clear hB2) | (go_at_call 35; (with_reducible refine (hputX _).mono ?_); rintro e w3 ⟨rfl, hq⟩; have hk := kept_wrNew hq (fun _ h => h.elim); have hB2 := bel_start hB hk; have hX := hq.1; clear hq hk hB; have hB := hB2; clear hB2) | (go_at_call 22; (with_reducible refine (string_any hX).mono ?_); rintro e w4 ⟨rfl, n4, rfl⟩; have hB2 := below_drewN hB n4; clear hB; have hB := hB2; clear hB2))
      go_ret
      exact ⟨ret_bool (by simp [ByteArray.toList_eq]), hB⟩
    · have hd1 : ((er : Int) != 0) = true := by simp [he]
      have hd2 : ((er : Int) == 0) = false := by simp [he]
      clear he Hone hputX
      go_wp2_with (first | (go_at_call 22; (with_reducible refine (string_any h4).mono ?_); rintro e w4 ⟨rfl, hn4⟩; have hB2 := bel_ex hB hn4; have h42 := h4.ex hn4; have h52 := h5.ex hn4; clear hB h4 h5 hn4; have hB := hB2; have h4 := h42; have h5 := h52; clear hB2 h42 h52) | (go_at_call 22; (with_reducible refine (string_any h5).mono ?_); rintro e w4 ⟨rfl, hn4⟩; have hB2 := bel_ex hB hn4; have h42 := h4.ex hn4; have h52 := h5.ex hn4; clear hB h4 h5 hn4; have hB := hB2; have h4 := h42; have h5 := h52; clear hB2 h42 h52) | (go_at_call 39; (with_reducible refine (hlenA _ _ _ h4).mono ?_); rintro e w4 ⟨rfl, hn4⟩; have hB2 := bel_ex hB hn4; have h42 := h4.ex hn4; have h52 := h5.ex hn4; clear hB h4 h5 hn4; have hB := hB2; have h4 := h42; have h5 := h52; clear hB2 h42 h52) | (go_at_call 39; (with_reducible refine (hlenB _ _ _ h5).mono ?_); rintro e w4 ⟨rfl, hn4⟩; have hB2 := bel_ex hB hn4; have h42 := h4.ex hn4; have h52 := h5.ex hn4; clear hB h4 h5 hn4; have hB := hB2; have h4 := h42; have h5 := h52; clear hB2 h42 h52) | (go_at_call 29; refine (new_any _ _).mono ?_; rintro e w2 ⟨rfl, rfl⟩) | (go_at_call 32; (refine (hget _ _ (isRd_new _ _)).mono ?_); rintro e w3 ⟨rfl, hq⟩; have hk := kept_rdNew hq; have hB2 := bel_start hB hk; clear hq hk hB h4 h5; have hB := hB2; clear hB2))
      go_ret
      exact ⟨rfl, hB.alloc hB.size _⟩
  · have hd : decide ((10 : Int) < s.size) = true := by simp; omega
    have hd' : (10 : Int) < s.size := by omega
    clear hl ha1 hb1
    go_enter Try.func13, Try.ntmps13
    go_wp2_with (first | (go_at_call 28; (with_reducible refine (awake4 _).mono ?_); rintro e w5 ⟨rfl, hk⟩; have hB2 := bel_start hB hk; clear hk hB; have hB := hB2; clear hB2))
    go_ret
    exact ⟨rfl, hB⟩
end Go.Proofs.Ytedbbmopckbfbaa
