/- Programs' texts, in plain words: lines, what is read, what is printed. No program in sight. No condition but those that each names. -/
import Derived.Test.YtghfkpddkmaflaaDoorLj
namespace Go.Proofs.YtghfkpddkmaflaaDoor
open Go
set_option linter.unusedVariables false
set_option linter.unusedSimpArgs false
/-- The whole lines of a text, and what stands behind the last line's end. -/
def spl : List UInt8 → List (List UInt8) × List UInt8
  | [] => ([], [])
  | c :: r => if c = 10 then ([] :: (spl r).1, (spl r).2) else match (spl r).1 with
    | [] => ([], c :: (spl r).2)
    | x :: L => ((c :: x) :: L, (spl r).2)
theorem spl_line : ∀ (x : List UInt8) (h : ∀ c ∈ x, c ≠ 10) (r : List UInt8), spl (x ++ 10 :: r) = (x :: (spl r).1, (spl r).2)
  | [], _, r => by rw [List.nil_append, spl, if_pos rfl]
  | c :: x, h, r => by
    rw [List.cons_append, spl, if_neg (h c List.mem_cons_self), spl_line x (fun d hd => h d (List.mem_cons_of_mem _ hd)) r]
theorem spl_open : ∀ (x : List UInt8) (h : ∀ c ∈ x, c ≠ 10), spl x = ([], x)
  | [], _ => rfl
  | c :: x, h => by
    rw [spl, if_neg (h c List.mem_cons_self), spl_open x fun d hd => h d (List.mem_cons_of_mem _ hd)]
/-- A text of lines. -/
def txtL : List (List UInt8) → List UInt8
  | [] => []
  | x :: L => x ++ 10 :: txtL L
theorem spl_back : ∀ l : List UInt8, txtL (spl l).1 ++ (spl l).2 = l ∧ (∀ x ∈ (spl l).1, ∀ c ∈ x, c ≠ 10) ∧ ∀ c ∈ (spl l).2, c ≠ 10
  | [] => ⟨rfl, (fun x hx => by cases hx), (fun c hc => by cases hc)⟩
  | c :: r => by
    obtain ⟨h1, h2, h3⟩ := spl_back r
    unfold spl
    split
    · rename_i hc
      refine ⟨?_, fun x hx => ?_, h3⟩
      · show 10 :: (txtL (spl r).1 ++ (spl r).2) = _
        rw [h1, hc]
      · rcases List.mem_cons.1 hx with rfl | hx
        · intro d hd; cases hd
        · exact h2 x hx
    · rename_i hc
      cases hL : (spl r).1 with
      | nil =>
        rw [hL] at h1
        refine ⟨?_, fun x hx => (by cases hx), fun d hd => ?_⟩
        · show c :: ([] ++ (spl r).2) = _
          have h1 : [] ++ (spl r).2 = r := h1
          rw [h1]
        · rcases List.mem_cons.1 hd with rfl | hd
          · exact hc
          · exact h3 d hd
      | cons x L =>
        rw [hL] at h1 h2
        refine ⟨?_, fun y hy => ?_, h3⟩
        · show c :: ((x ++ 10 :: txtL L) ++ (spl r).2) = _
          have h1 : (x ++ 10 :: txtL L) ++ (spl r).2 = r := h1
          rw [h1]
        · rcases List.mem_cons.1 hy with rfl | hy
          · intro d hd
            rcases List.mem_cons.1 hd with rfl | hd
            · exact hc
            · exact h2 x List.mem_cons_self d hd
          · exact h2 y (List.mem_cons_of_mem _ hy)
theorem spl_txt : ∀ (L : List (List UInt8)) (h : ∀ x ∈ L, ∀ c ∈ x, c ≠ 10) (r : List UInt8), spl (txtL L ++ r) = (L ++ (spl r).1, (spl r).2)
  | [], _, r => rfl
  | x :: L, h, r => by
    show spl ((x ++ 10 :: txtL L) ++ r) = _
    rw [List.append_assoc, List.cons_append, spl_line x (h x List.mem_cons_self), spl_txt L (fun y hy => h y (List.mem_cons_of_mem _ hy)) r]
    rfl
theorem spl_app {a b : List UInt8} (h : (spl a).2 = []) : spl (a ++ b) = ((spl a).1 ++ (spl b).1, (spl b).2) := by
  obtain ⟨h1, h2, h3⟩ := spl_back a
  rw [h, List.append_nil] at h1
  have := spl_txt (spl a).1 h2 b
  rw [h1] at this
  exact this
/-- What some lines, and an open one, are: a program, or the line at which they are none, and why. at: so many lines stand ahead. -/
def rdP : List (List UInt8) → List UInt8 → Nat → List Ins × Nat × Int
  | [], [], _ => ([], 0, 0)
  | [], _ :: _, at' => ([], at' + 1, if 256 < at' + 1 then 4 else 3)
  | x :: L, o, at' =>
    if 256 < at' + 1 then ([], at' + 1, 4) else
    if (ins x).2 = 0 then
      (if (rdP L o (at' + 1)).2.2 = 0 then ((ins x).1 :: (rdP L o (at' + 1)).1, 0, 0) else rdP L o (at' + 1))
    else ([], at' + 1, (ins x).2)
/-- What a text is. -/
def rdT (l : List UInt8) : List Ins × Nat × Int := rdP (spl l).1 (spl l).2 0
/-- A program's text, if each line can be. -/
def prT (P : List Ins) : List UInt8 := txtL (P.map lin)
/-- The first error. -/
def prErr : List Ins → Int
  | [] => 0
  | i :: P => if i.chk = 0 then prErr P else i.chk
def prP (P : List Ins) : List UInt8 × Int := if 256 < P.length then ([], 4) else if prErr P = 0 then (prT P, 0) else ([], prErr P)
theorem rdP_err : ∀ (L : List (List UInt8)) (o : List UInt8) (a : Nat), (rdP L o a).2.2 ≠ 0 → (rdP L o a).1 = []
  | [], [], a, h => absurd rfl h
  | [], c :: o, a, h => rfl
  | x :: L, o, a, h => by
    unfold rdP at h ⊢
    split
    · rfl
    · rename_i h1
      rw [if_neg h1] at h
      split
      · rename_i h2
        rw [if_pos h2] at h
        split
        · rename_i h3; rw [if_pos h3] at h; exact absurd rfl h
        · rename_i h3; rw [if_neg h3] at h; exact rdP_err L o (a + 1) h
      · rfl
theorem rdP_at : ∀ (L : List (List UInt8)) (o : List UInt8) (a : Nat), (rdP L o a).2.2 = 0 → (rdP L o a).2.1 = 0
  | [], [], a, h => rfl
  | [], c :: o, a, h => by
    unfold rdP at h
    simp only at h
    split at h <;> cases h
  | x :: L, o, a, h => by
    unfold rdP at h ⊢
    split
    · rename_i h1; rw [if_pos h1] at h; cases h
    · rename_i h1
      rw [if_neg h1] at h
      split
      · rename_i h2
        rw [if_pos h2] at h
        split
        · rfl
        · rename_i h3; rw [if_neg h3] at h; exact absurd h h3
      · rename_i h2; rw [if_neg h2] at h; exact absurd h h2
theorem ins_pair (x : List UInt8) (h : (ins x).2 = 0) : ins x = ((ins x).1, 0) := by rw [← h]
/-- Lines that are all right. -/
theorem rdP_ok : ∀ (P : List Ins) (a : Nat) (hw : ∀ i ∈ P, i.Wf ∧ i.chk = 0) (hl : a + P.length ≤ 256), rdP (P.map lin) [] a = (P, 0, 0)
  | [], a, _, _ => rfl
  | i :: P, a, hw, hl => by
    have hi := ins_lin (hw i List.mem_cons_self).1 (hw i List.mem_cons_self).2
    rw [List.length_cons] at hl
    rw [List.map_cons, rdP, if_neg (by omega), hi, rdP_ok P (a + 1) (fun j hj => hw j (List.mem_cons_of_mem _ hj)) (by omega)]
    rfl
theorem rdP_back : ∀ (L : List (List UInt8)) (o : List UInt8) (a : Nat), (rdP L o a).2.2 = 0 → o = [] ∧ (rdP L o a).1.map lin = L ∧ a + L.length ≤ max a 256 ∧ (∀ i ∈ (rdP L o a).1, i.Wf ∧ i.chk = 0)
  | [], [], a, h => ⟨rfl, rfl, by simp; omega, fun i hi => by cases hi⟩
  | [], c :: o, a, h => by
    unfold rdP at h
    simp only at h
    split at h <;> cases h
  | x :: L, o, a, h => by
    unfold rdP at h ⊢
    split
    · rename_i h1; rw [if_pos h1] at h; cases h
    · rename_i h1
      rw [if_neg h1] at h
      split
      · rename_i h2
        rw [if_pos h2] at h
        split
        · rename_i h3
          obtain ⟨r1, r2, r3, r4⟩ := rdP_back L o (a + 1) h3
          obtain ⟨b1, b2, b3⟩ := ins_back (ins_pair x h2)
          refine ⟨r1, by rw [List.map_cons, b3, r2], by rw [List.length_cons]; omega, fun i hi => ?_⟩
          rcases List.mem_cons.1 hi with rfl | hi
          · exact ⟨b1, b2⟩
          · exact r4 i hi
        · rename_i h3; rw [if_neg h3] at h; exact absurd h h3
      · rename_i h2; rw [if_neg h2] at h; exact absurd h h2
theorem prErr_zero : ∀ P : List Ins, prErr P = 0 ↔ ∀ i ∈ P, i.chk = 0
  | [] => ⟨fun _ i hi => (by cases hi), fun _ => rfl⟩
  | i :: P => by
    unfold prErr
    constructor
    · intro h
      split at h
      · rename_i h0
        intro j hj
        rcases List.mem_cons.1 hj with rfl | hj
        · exact h0
        · exact (prErr_zero P).1 h j hj
      · rename_i h0; exact absurd h h0
    · intro h
      rw [if_pos (h i List.mem_cons_self)]
      exact (prErr_zero P).2 fun j hj => h j (List.mem_cons_of_mem _ hj)
theorem lin_nl {i : Ins} (h : i.chk = 0) : ∀ c ∈ lin i, c ≠ 10 := join_nb (linW i) (linW_nb (ichk_ok h).1)
theorem lins_nl {P : List Ins} (h : ∀ i ∈ P, i.chk = 0) : ∀ x ∈ P.map lin, ∀ c ∈ x, c ≠ 10 := by
  intro x hx
  obtain ⟨i, hi, rfl⟩ := List.mem_map.1 hx
  exact lin_nl (h i hi)
theorem spl_pr {P : List Ins} (h : ∀ i ∈ P, i.chk = 0) : spl (prT P) = (P.map lin, []) := by
  have := spl_txt (P.map lin) (lins_nl h) []
  rw [List.append_nil] at this
  rw [prT, this]
  show ((P.map lin) ++ [], []) = _
  rw [List.append_nil]
/-- What is printed is read as it was. -/
theorem rd_pr {P : List Ins} (hw : ∀ i ∈ P, i.Wf) (h : (prP P).2 = 0) : rdT (prP P).1 = (P, 0, 0) := by
  unfold prP at h ⊢
  split
  · rename_i h1; rw [if_pos h1] at h; cases h
  · rename_i h1
    rw [if_neg h1] at h
    split
    · rename_i h2
      have h3 := (prErr_zero P).1 h2
      unfold rdT
      rw [spl_pr h3]
      exact rdP_ok P 0 (fun i hi => ⟨hw i hi, h3 i hi⟩) (by omega)
    · rename_i h2; rw [if_neg h2] at h; exact absurd h h2
/-- What is read is printed as it was. -/
theorem pr_rd {l : List UInt8} (h : (rdT l).2.2 = 0) : prP (rdT l).1 = (l, 0) ∧ (∀ i ∈ (rdT l).1, i.Wf) := by
  obtain ⟨h1, h2, h3, h4⟩ := rdP_back _ _ _ h
  obtain ⟨s1, s2, s3⟩ := spl_back l
  have hl : (rdT l).1.length = (spl l).1.length := by rw [← h2]; simp [rdT]
  refine ⟨?_, fun i hi => (h4 i hi).1⟩
  unfold prP
  have hp : prErr (rdT l).1 = 0 := (prErr_zero _).2 fun i hi => (h4 i hi).2
  have h2 : (rdT l).1.map lin = (spl l).1 := h2
  rw [if_neg (by omega), if_pos hp]
  unfold prT
  rw [h2]
  rw [h1, List.append_nil] at s1
  rw [s1]
/-- Two texts, one behind the other. -/
theorem rdP_app : ∀ (L M : List (List UInt8)) (o : List UInt8) (a : Nat), (rdP L [] a).2.2 = 0 → rdP (L ++ M) o a = if (rdP M o (a + L.length)).2.2 = 0 then ((rdP L [] a).1 ++ (rdP M o (a + L.length)).1, 0, 0) else rdP M o (a + L.length)
  | [], M, o, a, h => by
    show rdP M o a = if (rdP M o a).2.2 = 0 then ([] ++ (rdP M o a).1, 0, 0) else rdP M o a
    split
    · rename_i h0
      have := rdP_at M o a h0
      rw [List.nil_append]
      exact Prod.ext rfl (Prod.ext this h0)
    · rfl
  | x :: L, M, o, a, h => by
    unfold rdP at h
    split at h
    · cases h
    · rename_i h1
      split at h
      · rename_i h2
        split at h
        · rename_i h3
          have ih := rdP_app L M o (a + 1) h3
          rw [List.cons_append, rdP, if_neg h1, if_pos h2, ih, List.length_cons, show a + 1 + L.length = a + (L.length + 1) by omega]
          have e : (rdP (x :: L) [] a).1 = (ins x).1 :: (rdP L [] (a + 1)).1 := by rw [rdP, if_neg h1, if_pos h2, if_pos h3]
          rw [e]
          by_cases h4 : (rdP M o (a + (L.length + 1))).2.2 = 0
          · rw [if_pos h4, if_pos h4]
            simp
          · rw [if_neg h4, if_neg h4, if_neg h4]
        · rename_i h3; exact absurd h h3
      · rename_i h2; exact absurd h h2
/-- Too many lines. -/
theorem rdP_long : ∀ (L : List (List UInt8)) (o : List UInt8) (a : Nat) (ha : a ≤ 256), (∀ x ∈ L, (ins x).2 = 0) → 256 < a + L.length → rdP L o a = ([], 257, 4)
  | [], o, a, ha, _, h => by simp at h; omega
  | x :: L, o, a, ha, hx, h => by
    rw [rdP]
    split
    · rename_i h1
      rw [show a = 256 by omega]
    · rename_i h1
      rw [List.length_cons] at h
      rw [if_pos (hx x List.mem_cons_self), rdP_long L o (a + 1) (by omega) (fun y hy => hx y (List.mem_cons_of_mem _ hy)) (by omega)]
      rfl
end Go.Proofs.YtghfkpddkmaflaaDoor
