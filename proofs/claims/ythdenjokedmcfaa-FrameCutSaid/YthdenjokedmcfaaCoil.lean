/- The bytes of events in plain words. No program in sight. No condition. -/
import Derived.Test.YthdenjokedmcfaaEv
namespace Go.Proofs.Ythdenjokedmcfaa
open Go.RowKit
/-- From one stamp to the next: the count's step, the drift; can it be told? -/
def Stp (b e : Ev) : Nat × Int × Bool :=
  if e.ct < b.ct ∨ e.cy < b.cy then (0, 0, false)
  else if 4294967295 < e.ct - b.ct ∨ (e.ct - b.ct < e.cy - b.cy ∧ 2147483648 ≤ e.cy - b.cy - (e.ct - b.ct)) ∨ (e.cy - b.cy < e.ct - b.ct ∧ 2147483648 < e.ct - b.ct - (e.cy - b.cy)) then (0, 0, false)
  else (e.ct - b.ct, ((e.cy - b.cy : Nat) : Int) - ((e.ct - b.ct : Nat) : Int), true)
theorem stp_no {b e : Ev} (h : (Stp b e).2.2 = false) : Stp b e = (0, 0, false) := by
  unfold Stp at *
  split at h
  · rw [if_pos (by assumption)]
  · rw [if_neg (by assumption)]
    split at h
    · rw [if_pos (by assumption)]
    · cases h
theorem stp_yes {b e : Ev} (h : (Stp b e).2.2 = true) : b.ct ≤ e.ct ∧ b.cy ≤ e.cy ∧ e.ct - b.ct ≤ 4294967295 ∧ (Stp b e).1 = e.ct - b.ct ∧ (Stp b e).2.1 = ((e.cy - b.cy : Nat) : Int) - ((e.ct - b.ct : Nat) : Int) ∧ -2147483648 ≤ (Stp b e).2.1 ∧ (Stp b e).2.1 < 2147483648 := by
  unfold Stp at *
  split at h
  · cases h
  · split at h
    · cases h
    · rename_i h1 h2
      rw [if_neg h1, if_neg h2]
      obtain ⟨h3, h4⟩ : b.ct ≤ e.ct ∧ b.cy ≤ e.cy := by omega
      clear h1 h
      generalize e.ct - b.ct = s at h2 ⊢
      generalize e.cy - b.cy = g at h2 ⊢
      refine ⟨h3, h4, by omega, rfl, rfl, ?_, ?_⟩
      · show (-2147483648 : Int) ≤ (g : Int) - (s : Int)
        omega
      · show (g : Int) - (s : Int) < 2147483648
        omega
/-- An event's bytes by its steps. -/
def one (e : Ev) (s : Nat) (d : Int) : List UInt8 :=
  [UInt8.ofNat e.k.toNat] ++ leb 10 s ++ leb 10 (foldV d) ++ (if hasA e.k = true then leb 10 e.a else []) ++ (if hasB e.k = true then leb 10 e.b else []) ++ (if hasV e.k = true then leb 10 e.v else [])
/-- What is wrong with an event behind another one; its bytes. -/
def evErr (b e : Ev) : Int := if e.chk = 0 then (if (Stp b e).2.2 = true then 0 else 5) else 3
def evBytes (b e : Ev) : List UInt8 := one e (Stp b e).1 (Stp b e).2.1
/-- The bytes of the first n events, one behind the other; the first error among them. -/
def prnC (z : Nat → Ev) : Nat → List UInt8
  | 0 => []
  | n + 1 => prnC z n ++ evBytes (z (n - 1)) (z n)
def prnE (z : Nat → Ev) : Nat → Int
  | 0 => 0
  | n + 1 => if prnE z n = 0 then evErr (z (n - 1)) (z n) else prnE z n
/-- What Print answers. -/
def prnS (z : Nat → Ev) (n : Nat) : List UInt8 := if prnE z n = 0 then prnC z n else []
theorem prnE_mono (z : Nat → Ev) {i : Nat} (hi : prnE z i ≠ 0) : ∀ {n : Nat}, i ≤ n → prnE z n = prnE z i
  | 0, h => by obtain rfl : i = 0 := by omega
               rfl
  | n + 1, h => by
    rcases Nat.lt_or_ge n i with h1 | h1
    · obtain rfl : i = n + 1 := by omega
      rfl
    · rw [prnE, prnE_mono z hi h1, if_neg hi]
theorem one_len (e : Ev) (s : Nat) (d : Int) : 3 ≤ (one e s d).length ∧ (one e s d).length ≤ 51 := by
  have h1 := leb_len_le 10 s
  have h2 := leb_len_le 10 (foldV d)
  have h3 := leb_len_le 10 e.a
  have h4 := leb_len_le 10 e.b
  have h5 := leb_len_le 10 e.v
  have h6 : 1 ≤ (leb 10 s).length := leb_pos 9 s
  have h7 : 1 ≤ (leb 10 (foldV d)).length := leb_pos 9 (foldV d)
  unfold one
  simp only [List.length_append, List.length_cons, List.length_nil]
  refine ⟨by omega, ?_⟩
  split <;> split <;> split <;> simp <;> omega
theorem prnC_len (z : Nat → Ev) : ∀ n, (prnC z n).length ≤ 51 * n
  | 0 => Nat.le_refl _
  | n + 1 => by
    have := prnC_len z n
    have := (one_len (z n) (Stp (z (n - 1)) (z n)).1 (Stp (z (n - 1)) (z n)).2.1).2
    rw [prnC, List.length_append]
    unfold evBytes
    omega
end Go.Proofs.Ythdenjokedmcfaa
