/- The walks of the statements of layer 2. -/
import Derived.Test.YtedbbmopckbfbaaRef2
import Derived.Deep.DeepMust
namespace Go.Proofs.Ytedbbmopckbfbaa
open Go.RowKit
set_option maxRecDepth 20000
set_option maxHeartbeats 1000000 in
theorem awake2 (w : World) : Calls Try.prog 23 #[] w fun e w' => e = .returned (.bool true) ∧ Below w.heap.size w w' := by
  have L1 : lget ⟨#[172, 2]⟩ 0 = (300, 0, 2) := by decide +kernel
  have L2 : lget ⟨#[128, 0]⟩ 0 = (0, 3, 0) := by decide +kernel
  have L3 : lget ⟨#[128]⟩ 0 = (0, 2, 0) := by decide +kernel
  have L4 : leb 10 300 = [172, 2] := by decide +kernel
  have L5 : foldV (-1) = 1 := by decide +kernel
  have L6 : foldV 1 = 2 := by decide +kernel
  have L7 : unfoldV 3 = -2 := by decide +kernel
  have L8 : lsz 300 = 2 := by decide +kernel
  go_enter Try.func23, Try.ntmps23
  go_wp2_with (fail)
  go_at_call 21
  refine (lput_any (IsWr.fresh w) 300 (by decide) (by decide)).mono ?_
  rintro e w1 ⟨rfl, hw1⟩
  have hB := kept_wrNew hw1 (fun _ h => h.elim)
  have hW := hw1.1
  rw [L4] at hW
  clear hw1
  go_wp2_with (first | (go_at_call 29; refine (new_any _ _).mono ?_; rintro e w2 ⟨rfl, rfl⟩) | (go_at_call 40; go_must (refine (lget_any (isRd_new _ _) (Nat.zero_le _) (by decide)).mono ?_); rintro e w3 ⟨rfl, hq⟩; have hk := kept_rdNew hq; have hB2 := bel_start hB hk; have hW2 := hW.kept hk; clear hq hk hB hW; have hB := hB2; have hW := hW2; clear hB2 hW2) | (go_at_call 22; go_must (refine (string_any hW).mono ?_); rintro e w4 ⟨rfl, n4, rfl⟩) | (go_at_call 24; go_must (refine (lfold_any _ (by decide) (by decide) _).mono ?_); rintro e w5 ⟨rfl, rfl⟩) | (go_at_call 26; go_must (refine (lunfold_any 3 (by decide) _).mono ?_); rintro e w5 ⟨rfl, rfl⟩) | (go_at_call 27; go_must (refine (lsize_any 300 (by decide) _).mono ?_); rintro e w5 ⟨rfl, rfl⟩))
  go_ret
  exact ⟨rfl, below_drewN hB _⟩

set_option maxHeartbeats 1000000 in
theorem lebOne_walk (a b : Nat) (ha : a < U64) (hb : b < U64) (w : World) : Calls Try.prog 3 #[.int .u64 a, .int .u64 b] w fun e w' => e = .returned (.bool true) ∧ Below w.heap.size w w' := by
  have h1 := (IsWr.fresh w).alloc (.cells #[.slice none 0 0] 25)
  have h2 := IsWr.fresh (w.alloc (.cells #[.slice none 0 0] 25))
  have Ha := Lib.hid ha
  have Hb := Lib.hid hb
  have hEq : (leb 10 a == leb 10 b) = ((a : Int) == (b : Int)) := by
    rw [Bool.eq_iff_iff, beq_iff_eq, beq_iff_eq]
    exact ⟨fun h => congrArg Nat.cast (leb_inj a b ha hb h), fun h => by rw [Int.ofNat_inj.1 h]⟩
  have hpre : (({ data := (leb 10 b).toArray } : ByteArray).extract 0 (leb 10 a).length).toList = (leb 10 b).take (leb 10 a).length := by
    rw [Lib.extract_toList]; simp
  have hbeg : (leb 10 a).length ≤ (leb 10 b).length → (((leb 10 b).take (leb 10 a).length) == leb 10 a) = ((a : Int) == (b : Int)) := by
    intro _
    rw [Bool.eq_iff_iff, beq_iff_eq, beq_iff_eq]
    constructor
    · intro h
      exact congrArg Nat.cast (leb_prefix 9 a b (u64_pow a ha) (u64_pow b hb) (h ▸ List.take_prefix _ _))
    · intro h
      rw [Int.ofNat_inj.1 h]; simp
  have hlen : ¬ (leb 10 a).length ≤ (leb 10 b).length → ((a : Int) == (b : Int)) = false := by
    intro h
    rw [beq_eq_false_iff_ne]
    intro e
    exact h (by rw [Int.ofNat_inj.1 e]; exact Nat.le_refl _)
  clear ha hb
  by_cases hl : (leb 10 a).length ≤ (leb 10 b).length
  all_goals first | (have Hb2 := hbeg hl) | (have Hb2 := hlen hl)
  all_goals clear hbeg hlen
  all_goals go_enter Try.func3, Try.ntmps3
  all_goals go_wp2_with fail
  all_goals refine (lput_any h1 a Ha.out (by decide)).mono ?_
  all_goals rintro e w1 ⟨rfl, hw1⟩
  all_goals have h3 := h2.only hw1.2 (by simp) (fun k hk hf => hf.elim)
  all_goals go_wp2_with fail
  all_goals have e1 : (w.alloc (Obj.cells #[Value.slice none 0 0] 25)).heap.size = w.heap.size + 1 := by simp
  all_goals rw [e1] at h3
  all_goals refine (lput_any h3 b Hb.out (by decide)).mono ?_
  all_goals rintro e w2 ⟨rfl, hw2⟩
  all_goals have h4 := hw1.1.only hw2.2 (by simp) (fun k hk hr hs => by simp at hr hs; omega)
  all_goals have h5 := hw2.1
  all_goals go_wp2_with (first | (go_at_call 22; (with_reducible refine (string_any h4).mono ?_); rintro e w4 ⟨rfl, n4, rfl⟩) | (go_at_call 22; (with_reducible refine (string_any (h5.drewN _)).mono ?_); rintro e w4 ⟨rfl, n5, rfl⟩) | (go_at_call 23; with_reducible refine (awake2 _).mono ?_; rintro e w5 ⟨rfl, hB5⟩))
  all_goals go_ret
  all_goals have hk1 : Below w.heap.size w w1 := (((((Only.refl (fun _ => False) w).alloc _).alloc _).trans hw1.2 (fun i hi hs => by simp at hs; omega)).below (Nat.le_refl _) (fun _ _ x => x))
  all_goals have hk2 : Below w.heap.size w w2 := (((Only.of_below hk1 (fun _ => False)).trans hw2.2 (fun i hi hs => by simp at hs; omega)).below (Nat.le_refl _) (fun _ _ x => x))
  all_goals exact ⟨rfl, bel_start (below_drewN hk2 _) hB5⟩

theorem lebOne_law (a b : Int) (w : World) (ha : (Lit.int .u64 a).wf = true) (hb : (Lit.int .u64 b).wf = true) : Calls Try.prog 3 #[.int .u64 a, .int .u64 b] w fun e w' => e = .returned (.bool true) ∧ Below w.heap.size w w' := by
  obtain ⟨a, rfl, ha1⟩ := u64_of ha
  obtain ⟨b, rfl, hb1⟩ := u64_of hb
  exact lebOne_walk a b ha1 hb1 w

theorem lebFolds_law (n m : Int) (w : World) (hn : (Lit.int .i64 n).wf = true) (hm : (Lit.int .u64 m).wf = true) : Calls Try.prog 4 #[.int .i64 n, .int .u64 m] w fun e w' => e = .returned (.bool true) ∧ Below w.heap.size w w' := by
  obtain ⟨m, rfl, hm1⟩ := u64_of hm
  obtain ⟨h0, h1⟩ := i64_of hn
  have H0 := Lib.hid (And.intro h0 h1)
  have Hf := Lib.hid (fold_lt n h0 h1)
  have hu := unfold_range m hm1
  have Hu := Lib.hid hu
  have Hm := Lib.hid hm1
  have E1 := unfold_fold n
  have E2 := fold_unfold m
  have hs : ((lsz (foldV n) : Int) == 1) = (decide (-64 ≤ n) && decide (n < 64)) := by
    rw [Bool.eq_iff_iff]
    have := lsz_one (foldV n) Hf.out
    have h3 : foldV n < 128 ↔ (-64 ≤ n ∧ n < 64) := by unfold foldV; split <;> omega
    simp only [beq_iff_eq, Bool.and_eq_true, decide_eq_true_eq]
    rw [← h3, ← this]
    omega
  clear hn hm h0 h1 hu hm1
  by_cases c1 : -64 ≤ n <;> by_cases c2 : n < 64
  all_goals (simp only [c1, c2] at hs)
  all_goals go_enter Try.func4, Try.ntmps4
  all_goals go_wp2_with (first | (go_at_call 24; (with_reducible refine (lfold_any n H0.out.1 H0.out.2 _).mono ?_); rintro e w1 ⟨rfl, rfl⟩) | (go_at_call 25; (with_reducible refine (rfold_any n H0.out.1 H0.out.2 _).mono ?_); rintro e w1 ⟨rfl, rfl⟩) | (go_at_call 26; (with_reducible refine (lunfold_any (foldV n) Hf.out _).mono ?_); rintro e w1 ⟨rfl, rfl⟩) | (go_at_call 26; (with_reducible refine (lunfold_any m Hm.out _).mono ?_); rintro e w1 ⟨rfl, rfl⟩) | (go_at_call 24; (with_reducible refine (lfold_any (unfoldV m) Hu.out.1 Hu.out.2 _).mono ?_); rintro e w1 ⟨rfl, rfl⟩) | (go_at_call 27; (with_reducible refine (lsize_any (foldV n) Hf.out _).mono ?_); rintro e w1 ⟨rfl, rfl⟩) | (go_at_call 23; (with_reducible refine (awake2 _).mono ?_); rintro e w5 ⟨rfl, hB5⟩))
  all_goals go_ret
  all_goals exact ⟨ret_bool (by simp <;> omega), hB5⟩

set_option maxHeartbeats 1000000 in
theorem lebPuts_law (n : Int) (w : World) (hn : (Lit.int .u64 n).wf = true) : Calls Try.prog 10 #[.int .u64 n] w fun e w' => e = .returned (.bool true) ∧ Below w.heap.size w w' := by
  obtain ⟨n, rfl, hn1⟩ := u64_of hn
  have hlen := leb10_len n hn1
  have Hn := Lib.hid hn1
  clear hn hn1
  go_enter Try.func10, Try.ntmps10
  go_wp2_with fail
  refine (lput_any (IsWr.fresh w) n Hn.out (by decide)).mono ?_
  rintro e w1 ⟨rfl, hw1⟩
  have hB := kept_wrNew hw1 (fun _ h => h.elim)
  have hW := hw1.1
  clear hw1
  go_wp2_with (first | (go_at_call 23; (with_reducible refine (awake2 _).mono ?_); rintro e w5 ⟨rfl, hk⟩; have hB2 := bel_start hB hk; have hW2 := hW.kept hk; clear hk hB hW; have hB := hB2; have hW := hW2; clear hB2 hW2) | (go_at_call 22; (with_reducible refine (string_any hW).mono ?_); rintro e w4 ⟨rfl, n4, rfl⟩; have hB2 := below_drewN hB n4; have hW2 := hW.drewN n4; clear hB hW; have hB := hB2; have hW := hW2; clear hB2 hW2) | (go_at_call 38; (with_reducible refine (rprint_any n Hn.out _).mono ?_); rintro e w5 ⟨rfl, hk⟩; have hB2 := bel_start hB hk; have hW2 := hW.kept hk; clear hk hB hW; have hB := hB2; have hW := hW2; clear hB2 hW2) | (go_at_call 27; (with_reducible refine (lsize_any n Hn.out _).mono ?_); rintro e w6 ⟨rfl, rfl⟩) | (go_at_call 39; (with_reducible refine (len_any hW).mono ?_); rintro e w4 ⟨rfl, n4, rfl⟩; have hB2 := below_drewN hB n4; have hW2 := hW.drewN n4; clear hB hW; have hB := hB2; have hW := hW2; clear hB2 hW2))
  go_ret
  exact ⟨ret_bool (by simp), hB⟩

theorem lebNil_law (n i : Int) (w : World) (hn : (Lit.int .u64 n).wf = true) (hi : (Lit.int .i64 i).wf = true) : Calls Try.prog 15 #[.int .u64 n, .int .i64 i] w fun e w' => e = .returned (.bool true) ∧ Below w.heap.size w w' := by
  obtain ⟨n, rfl, hn1⟩ := u64_of hn
  obtain ⟨h0, h1⟩ := i64_of hi
  have H0 := Lib.hid (And.intro h0 h1)
  have Hn := Lib.hid hn1
  have hB := Below.refl w.heap.size w
  clear hn hi hn1 h0 h1
  go_enter Try.func15, Try.ntmps15
  go_wp2_with (first | (go_at_call 21; (with_reducible refine (lput_nil n Hn.out _).mono ?_); rintro e w5 ⟨rfl, hk⟩; have hB2 := bel_start hB hk; clear hk hB; have hB := hB2; clear hB2) | (go_at_call 44; (with_reducible refine (lputInt_nil i H0.out.1 H0.out.2 _).mono ?_); rintro e w5 ⟨rfl, hk⟩; have hB2 := bel_start hB hk; clear hk hB; have hB := hB2; clear hB2) | (go_at_call 40; (with_reducible refine (lget_nil _).mono ?_); rintro e w6 ⟨rfl, rfl⟩) | (go_at_call 42; (with_reducible refine (lmost_nil _ _).mono ?_); rintro e w6 ⟨rfl, rfl⟩) | (go_at_call 46; (with_reducible refine (lgetInt_nil _).mono ?_); rintro e w6 ⟨rfl, rfl⟩) | (go_at_call 23; (with_reducible refine (awake2 _).mono ?_); rintro e w5 ⟨rfl, hk⟩; have hB2 := bel_start hB hk; clear hk hB; have hB := hB2; clear hB2))
  go_ret
  exact ⟨rfl, hB⟩

set_option maxHeartbeats 2000000 in
theorem lebGets_law (s : ByteArray) (at_ m : Int) (w : World) (hs : s.size ≤ maxLen) (ha : (Lit.int .i64 at_).wf = true) (hm : (Lit.int .u64 m).wf = true) : Calls Try.prog 11 #[.string s, .int .i64 at_, .int .u64 m] w fun e w' => e = .returned (.bool true) ∧ Below w.heap.size w w' := by
  obtain ⟨m, rfl, _⟩ := u64_of hm
  unfold maxLen at hs
  clear hm ha
  have hB := Below.refl w.heap.size w
  by_cases hl : s.size ≤ 500
  · have hl' : s.size ≤ 140737488355328 := by omega
    have hd : decide ((500 : Int) < s.size) = false := by simp; omega
    obtain ⟨p, hp⟩ : ∃ p, p = (sk s 0 at_).2 := ⟨_, rfl⟩
    have hps : p ≤ s.size := by
      rw [hp]; unfold sk; split
      · simp
      · simp only; omega
    have hgn := (lget_next s p hps).1
    have hmn := lmost_next s p m hps
    have Hp := Lib.hid hp
    have hsk := fun (x : World) (b : Nat) (h : IsRd x b s 0) => seek_any h at_
    rw [← hp] at hsk
    clear hp hl
    go_enter Try.func11, Try.ntmps11
    go_wp2_with (first | (go_at_call 23; (with_reducible refine (awake2 _).mono ?_); rintro e w5 ⟨rfl, hk⟩; have hB2 := bel_start hB hk; clear hk hB; have hB := hB2; clear hB2))
    refine (new_any _ _).mono ?_
    rintro e w6 ⟨rfl, rfl⟩
    have hR := isRd_new s w5
    have hsz := hB.size
    have hB2 := hB.alloc hsz (.cells #[.string s, .int .i64 0] 89)
    clear hB
    have hB := hB2
    clear hB2
    obtain ⟨b, hb⟩ : ∃ b, b = w5.heap.size := ⟨_, rfl⟩
    rw [← hb] at hR hsz ⊢
    have Hb := Lib.hid hb
    clear hb
    generalize w5.alloc (.cells #[.string s, .int .i64 0] 89) = w7 at hR hB ⊢
    have hx := hB.size
    have hskp := fun (x : World) (q : Nat) (h : IsRd x b s q) => seek_any h (p : Int)
    simp only [sk_ok _ _ p hps] at hskp
    have hget := fun (x : World) (h : IsRd x b s p) => lget_any h hps hl'
    have hmost := fun (x : World) (h : IsRd x b s p) => lmost_any h hps hl' m
    have hrget := fun (x : World) => rget_any hps hl' x
    have hrmost := fun (x : World) => rmost_any hps hl' m x
    generalize lget s p = g1 at hget hrget hgn
    generalize lmost s p m = g2 at hmost hrmost hmn
    go_wp2_with (first | (go_at_call 30; (with_reducible refine (hsk _ _ hR).mono ?_); rintro e w8 ⟨rfl, hq⟩; have hB2 := bel_rd hB hq hsz hx; have hR2 := hq.1; clear hq hB hR; have hB := hB2; have hR := hR2; clear hB2 hR2; have hx := hB.size) | (go_at_call 30; (with_reducible refine (hskp _ _ hR).mono ?_); rintro e w8 ⟨rfl, hq⟩; have hB2 := bel_rd hB hq hsz hx; have hR2 := hq.1; clear hq hB hR; have hB := hB2; have hR := hR2; clear hB2 hR2; have hx := hB.size) | (go_at_call 31; (with_reducible refine (at_any hR).mono ?_); rintro e w4 ⟨rfl, n4, rfl⟩; have hB2 := below_drewN hB n4; have hR2 := hR.drewN n4; clear hB hR; have hB := hB2; have hR := hR2; clear hB2 hR2; have hx := hB.size) | (go_at_call 40; (with_reducible refine (hget _ hR).mono ?_); rintro e w8 ⟨rfl, hq⟩; have hB2 := bel_rd hB hq hsz hx; have hR2 := hq.1; clear hq hB hR; have hB := hB2; have hR := hR2; clear hB2 hR2; have hx := hB.size) | (go_at_call 42; (with_reducible refine (hmost _ hR).mono ?_); rintro e w8 ⟨rfl, hq⟩; have hB2 := bel_rd hB hq hsz hx; have hR2 := hq.1; clear hq hB hR; have hB := hB2; have hR := hR2; clear hB2 hR2; have hx := hB.size) | (go_at_call 41; (with_reducible refine (hrget _).mono ?_); rintro e w9 ⟨rfl, rfl⟩) | (go_at_call 43; (with_reducible refine (hrmost _).mono ?_); rintro e w9 ⟨rfl, rfl⟩))
    go_ret
    exact ⟨ret_bool (by simp), hB⟩
  · have hd : decide ((500 : Int) < s.size) = true := by simp; omega
    have hd' : (500 : Int) < s.size := by omega
    clear hl
    go_enter Try.func11, Try.ntmps11
    go_wp2_with (first | (go_at_call 23; (with_reducible refine (awake2 _).mono ?_); rintro e w5 ⟨rfl, hk⟩; have hB2 := bel_start hB hk; clear hk hB; have hB := hB2; clear hB2))
    go_ret
    exact ⟨rfl, hB⟩
end Go.Proofs.Ytedbbmopckbfbaa
