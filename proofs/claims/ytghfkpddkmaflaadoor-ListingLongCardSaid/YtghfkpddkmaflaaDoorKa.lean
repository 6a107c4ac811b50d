/- How the reference's Parse (layer 11) takes a line's words, letter by letter: the same as the chain of fields. No program in sight. No condition but those that each names. -/
import Derived.Test.YtghfkpddkmaflaaDoorIy
namespace Go.Proofs.YtghfkpddkmaflaaDoor
open Go
set_option linter.unusedVariables false
set_option linter.unusedSimpArgs false
/-- The letters in the order in which they are told. -/
def ordL (p q r s t : Bool) : List UInt8 := (if p then [65] else []) ++ ((if q then [66] else []) ++ ((if s then [68] else []) ++ ((if r then [67] else []) ++ (if t then [75] else []))))
/-- Letter by letter. -/
def pF (dD : Bool) (o : Int) : List UInt8 → Nat → Nat → Nat → Nat → Nat → List (List UInt8) → Option Ins
  | [], a, b, c, d, k, R => if R = [] then some ⟨o, a, b, c, d, k⟩ else none
  | x :: L, a, b, c, d, k, R =>
    if x = 67 ∧ dD = true ∧ d ≠ 2 then pF dD o L a b c d k R
    else match R with
      | [] => none
      | w :: t =>
        if x = 65 then (rdR w).bind fun n => pF dD o L n b c d k t
        else if x = 66 then (rdR w).bind fun n => pF dD o L a n c d k t
        else if x = 67 then (rdR w).bind fun n => pF dD o L a b n d k t
        else if x = 68 then (rdD w).bind fun n => pF dD o L a b c n k t
        else (numP 32 w).bind fun n => pF dD o L a b c d n t
theorem pF_cons (dD : Bool) (o : Int) (x : UInt8) (L : List UInt8) (a b c d k : Nat) (R : List (List UInt8)) (h : x = 67 ∧ dD = true ∧ d ≠ 2) : pF dD o (x :: L) a b c d k R = pF dD o L a b c d k R := by
  cases R with
  | nil => rw [pF, if_pos h]
  | cons w t => rw [pF, if_pos h]
theorem pF_A (dD : Bool) (o : Int) (p : Bool) (L : List UInt8) (b c d k : Nat) (R : List (List UInt8)) : pF dD o ((if p then [65] else []) ++ L) 0 b c d k R = (tkF p rdR R).bind fun a => pF dD o L a.1 b c d k a.2 := by
  cases p
  · rfl
  · cases R with
    | nil => rfl
    | cons w t =>
      show pF dD o (65 :: L) 0 b c d k (w :: t) = ((rdR w).map fun n => (n, t)).bind _
      rw [pF, if_neg (by intro h; exact absurd h.1 (by decide)), if_pos rfl]
      cases rdR w <;> rfl
theorem pF_B (dD : Bool) (o : Int) (p : Bool) (L : List UInt8) (a c d k : Nat) (R : List (List UInt8)) : pF dD o ((if p then [66] else []) ++ L) a 0 c d k R = (tkF p rdR R).bind fun b => pF dD o L a b.1 c d k b.2 := by
  cases p
  · rfl
  · cases R with
    | nil => rfl
    | cons w t =>
      show pF dD o (66 :: L) a 0 c d k (w :: t) = ((rdR w).map fun n => (n, t)).bind _
      rw [pF, if_neg (by intro h; exact absurd h.1 (by decide)), if_neg (by decide), if_pos rfl]
      cases rdR w <;> rfl
theorem pF_D (dD : Bool) (o : Int) (p : Bool) (L : List UInt8) (a b c k : Nat) (R : List (List UInt8)) : pF dD o ((if p then [68] else []) ++ L) a b c 0 k R = (tkF p rdD R).bind fun d => pF dD o L a b c d.1 k d.2 := by
  cases p
  · rfl
  · cases R with
    | nil => rfl
    | cons w t =>
      show pF dD o (68 :: L) a b c 0 k (w :: t) = ((rdD w).map fun n => (n, t)).bind _
      rw [pF, if_neg (by intro h; exact absurd h.1 (by decide)), if_neg (by decide), if_neg (by decide), if_neg (by decide), if_pos rfl]
      cases rdD w <;> rfl
theorem pF_C (dD : Bool) (o : Int) (p : Bool) (L : List UInt8) (a b d k : Nat) (R : List (List UInt8)) : pF dD o ((if p then [67] else []) ++ L) a b 0 d k R = (tkF (p && (!dD || (d : Int) == 2)) rdR R).bind fun c => pF dD o L a b c.1 d k c.2 := by
  cases p
  · rfl
  · by_cases h : dD = true ∧ d ≠ 2
    · have e : (true && (!dD || (d : Int) == 2)) = false := by
        rw [h.1]
        have : ((d : Int) == 2) = false := by rw [beq_eq_false_iff_ne]; intro e; exact h.2 (by omega)
        rw [this]; rfl
      rw [e]
      show pF dD o (67 :: L) a b 0 d k R = _
      rw [pF_cons _ _ _ _ _ _ _ _ _ _ ⟨rfl, h⟩]
      rfl
    · have e : (true && (!dD || (d : Int) == 2)) = true := by
        cases dD
        · rfl
        · have : d = 2 := by
            by_cases q : d = 2
            · exact q
            · exact absurd ⟨rfl, q⟩ h
          rw [this]; rfl
      rw [e]
      cases R with
      | nil =>
        show pF dD o (67 :: L) a b 0 d k [] = none
        rw [pF, if_neg (fun q => h q.2)]
      | cons w t =>
        show pF dD o (67 :: L) a b 0 d k (w :: t) = ((rdR w).map fun n => (n, t)).bind _
        rw [pF, if_neg (fun q => h q.2), if_neg (by decide), if_neg (by decide), if_pos rfl]
        cases rdR w <;> rfl
theorem pF_K (dD : Bool) (o : Int) (p : Bool) (a b c d : Nat) (R : List (List UInt8)) : pF dD o (if p then [75] else []) a b c d 0 R = (tkF p (numP 32) R).bind fun k => if k.2 = [] then some ⟨o, a, b, c, d, k.1⟩ else none := by
  cases p
  · rfl
  · cases R with
    | nil => rfl
    | cons w t =>
      show pF dD o (75 :: []) a b c d 0 (w :: t) = ((numP 32 w).map fun n => (n, t)).bind _
      rw [pF, if_neg (by intro h; exact absurd h.1 (by decide)), if_neg (by decide), if_neg (by decide), if_neg (by decide), if_neg (by decide)]
      cases numP 32 w <;> rfl
def ordI (o : Int) : List UInt8 := ordL (uA o) (uB o) (uC o) (uD o) (uK o)
theorem pF_K0 (o : Int) (R : List (List UInt8)) : pF (uD o) o (ordI o) 0 0 0 0 0 R = K0 o R := by
  unfold ordI ordL K0 K1 K2 K3 K4 hC
  rw [pF_A]
  congr 1
  funext a
  rw [pF_B]
  congr 1
  funext b
  rw [pF_D]
  congr 1
  funext d
  rw [pF_C]
  congr 1
  funext c
  rw [pF_K]
theorem ordI_mem (o : Int) : ∀ x ∈ ordI o, x = 65 ∨ x = 66 ∨ x = 67 ∨ x = 68 ∨ x = 75 := by
  have : ∀ p q r s t : Bool, ∀ x ∈ ordL p q r s t, x = 65 ∨ x = 66 ∨ x = 67 ∨ x = 68 ∨ x = 75 := by decide
  exact this _ _ _ _ _
theorem ordI_len (o : Int) : (ordI o).length ≤ 5 := by
  have : ∀ p q r s t : Bool, (ordL p q r s t).length ≤ 5 := by decide
  exact this _ _ _ _ _
theorem ordI_no {o : Int} (h : o < 1 ∨ 34 < o) : ordI o = [] := by
  unfold ordI uA uB uC uD uK
  rw [us_no h]
  rfl
end Go.Proofs.YtghfkpddkmaflaaDoor
