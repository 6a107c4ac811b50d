/- Events in plain words: which numbers a kind has, which events can be. No program in sight. No condition. -/
import Derived.Test.YtokjkfbbejalhaaDoorNum
namespace Go.Proofs.YtokjkfbbejalhaaDoor
open Go.RowKit
/-- An event. -/
structure Ev where
  k : Int
  cy : Nat
  ct : Nat
  a : Nat
  b : Nat
  v : Nat
deriving DecidableEq
instance : Inhabited Ev := ⟨⟨0, 0, 0, 0, 0, 0⟩⟩
/-- Its numbers are such as the machine has. -/
structure Ev.Wf (e : Ev) : Prop where
  k0 : -9223372036854775808 ≤ e.k
  k1 : e.k ≤ 9223372036854775807
  cy : e.cy < 18446744073709551616
  ct : e.ct < 18446744073709551616
  a : e.a < 4294967296
  b : e.b < 4294967296
  v : e.v < 4294967296
def Ev.f (e : Ev) : Nat → Value
  | 0 => .int .i64 e.k
  | 1 => .int .u64 e.cy
  | 2 => .int .u64 e.ct
  | 3 => .int .u32 e.a
  | 4 => .int .u32 e.b
  | _ => .int .u32 e.v
def Ev.cells (e : Ev) : List Value := [.int .i64 e.k, .int .u64 e.cy, .int .u64 e.ct, .int .u32 e.a, .int .u32 e.b, .int .u32 e.v]
/-- The ranges of a kind's numbers, by their numbers. -/
def sh (k : Int) : Nat × Nat × Nat :=
  if k = 1 then (3, 2, 0) else if k = 2 ∨ k = 20 then (3, 6, 1) else if k = 3 ∨ k = 4 then (3, 0, 0) else if k = 5 then (8, 8, 0) else if k = 6 ∨ k = 8 then (5, 0, 1) else if k = 7 then (5, 0, 12)
  else if k = 9 then (5, 9, 0) else if k = 10 then (5, 2, 0) else if k = 11 then (5, 10, 0) else if k = 12 ∨ k = 13 then (5, 4, 0) else if k = 14 then (7, 4, 11) else if k = 15 then (5, 4, 11)
  else if k = 16 ∨ k = 17 ∨ k = 19 then (6, 4, 1) else if k = 18 then (4, 0, 0) else if k = 21 then (6, 13, 0) else if k = 22 then (5, 0, 0) else if k = 23 then (7, 13, 14) else (0, 0, 0)
/-- Is a number in its range? -/
def wth (n o : Nat) : Bool :=
  match o with
  | 1 => true
  | 2 => decide (n ≤ 1)
  | 3 => decide (n ≤ 15)
  | 4 => decide (n ≤ 31)
  | 5 => decide (n ≤ 63)
  | 6 => decide (n ≤ 79)
  | 7 => decide (n ≤ 80)
  | 8 => decide (n ≤ 63 ∨ n = 255)
  | 9 => decide (n = 0 ∨ (32 ≤ n ∧ n ≤ 159))
  | 10 => decide (n ≤ 31)
  | 11 => decide (n ≤ 255)
  | 12 => decide (1 ≤ n ∧ n ≤ 255)
  | 13 => decide (n ≤ 16)
  | 14 => decide (n ≤ 38)
  | _ => decide (n = 0)
def isK (k : Int) : Bool := decide (1 ≤ k ∧ k ≤ 24)
/-- Can it be? -/
def Ev.okB (e : Ev) : Bool := wth e.a (sh e.k).1 && (wth e.b (sh e.k).2.1 && (wth e.v (sh e.k).2.2 && !(decide (e.k = 5) && decide (e.a = e.b))))
def Ev.chk (e : Ev) : Int := if isK e.k = true then (if e.okB = true then 0 else 5) else 1
def hasA (k : Int) : Bool := (sh k).1 != 0
def hasB (k : Int) : Bool := (sh k).2.1 != 0
def hasV (k : Int) : Bool := (sh k).2.2 != 0
theorem k_cases {k : Int} (h0 : 1 ≤ k) (h1 : k ≤ 24) : k = 1 ∨ k = 2 ∨ k = 3 ∨ k = 4 ∨ k = 5 ∨ k = 6 ∨ k = 7 ∨ k = 8 ∨ k = 9 ∨ k = 10 ∨ k = 11 ∨ k = 12 ∨ k = 13 ∨ k = 14 ∨ k = 15 ∨ k = 16 ∨ k = 17 ∨ k = 18 ∨ k = 19 ∨ k = 20 ∨ k = 21 ∨ k = 22 ∨ k = 23 ∨ k = 24 := by omega
theorem sh_no {k : Int} (h : k < 1 ∨ 23 < k) : sh k = (0, 0, 0) := by
  unfold sh
  rw [if_neg (by omega), if_neg (by omega), if_neg (by omega), if_neg (by omega), if_neg (by omega), if_neg (by omega), if_neg (by omega), if_neg (by omega), if_neg (by omega), if_neg (by omega), if_neg (by omega), if_neg (by omega), if_neg (by omega), if_neg (by omega), if_neg (by omega), if_neg (by omega), if_neg (by omega)]
theorem sh_le (k : Int) : (sh k).1 ≤ 14 ∧ (sh k).2.1 ≤ 14 ∧ (sh k).2.2 ≤ 14 := by
  by_cases h : 1 ≤ k ∧ k ≤ 24
  · rcases k_cases h.1 h.2 with rfl | rfl | rfl | rfl | rfl | rfl | rfl | rfl | rfl | rfl | rfl | rfl | rfl | rfl | rfl | rfl | rfl | rfl | rfl | rfl | rfl | rfl | rfl | rfl <;> decide
  · rw [sh_no (by omega)]; decide
theorem o_cases {o : Nat} (h : o ≤ 14) : o = 0 ∨ o = 1 ∨ o = 2 ∨ o = 3 ∨ o = 4 ∨ o = 5 ∨ o = 6 ∨ o = 7 ∨ o = 8 ∨ o = 9 ∨ o = 10 ∨ o = 11 ∨ o = 12 ∨ o = 13 ∨ o = 14 := by omega
theorem chk_ok {e : Ev} (h : e.chk = 0) : isK e.k = true ∧ e.okB = true := by
  unfold Ev.chk at h
  split at h
  · split at h
    · exact ⟨by assumption, by assumption⟩
    · cases h
  · cases h
theorem leaf_k {k n : Int} {G : Prop} (h : (k == n) = true) (g : k = n → G) : G := g (by simpa using h)
theorem leaf_n {k n : Int} {G : Prop} (h : (k == n) = false) (g : k ≠ n → G) : G := g (by simpa using h)
theorem eqb_f {k n : Int} (h : k ≠ n) : (k == n) = false := by simpa using h
theorem eqb_t {k n : Int} (h : k = n) : (k == n) = true := by simpa using h
def Ev.val (e : Ev) : Value := .agg #[.int .i64 e.k, .int .u64 e.cy, .int .u64 e.ct, .int .u32 e.a, .int .u32 e.b, .int .u32 e.v]
end Go.Proofs.YtokjkfbbejalhaaDoor
