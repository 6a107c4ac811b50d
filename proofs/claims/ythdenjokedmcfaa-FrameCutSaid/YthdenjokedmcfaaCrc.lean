/- Sums in plain words: one round, eight rounds, a byte, some bytes. No program in sight. No condition. -/
import Derived.Test.YthdenjokedmcfaaNum
namespace Go.Proofs.Ythdenjokedmcfaa
open Go.RowKit
/-- One round. -/
def cr (x : Nat) : Nat := (x / 2) ^^^ (if x % 2 = 1 then 3988292384 else 0)
def crN : Nat → Nat → Nat
  | 0, x => x
  | n + 1, x => crN n (cr x)
/-- A byte turns a sum. -/
def crS (x b : Nat) : Nat := crN 8 (x ^^^ b)
def crcL (x : Nat) (l : List UInt8) : Nat := l.foldl (fun x b => crS x b.toNat) x
/-- The sum of some bytes. -/
def crcV (l : List UInt8) : Nat := crcL 4294967295 l ^^^ 4294967295
theorem xor_half (a b : Nat) : (a ^^^ b) / 2 = a / 2 ^^^ b / 2 := by
  have h := Nat.shiftRight_xor_distrib (a := a) (b := b) (i := 1)
  simpa [Nat.shiftRight_eq_div_pow] using h
theorem xor_div (a b n : Nat) : (a ^^^ b) / 2 ^ n = a / 2 ^ n ^^^ b / 2 ^ n := by
  have h := Nat.shiftRight_xor_distrib (a := a) (b := b) (i := n)
  simpa [Nat.shiftRight_eq_div_pow] using h
theorem xor_odd (a b : Nat) : (a ^^^ b) % 2 = (a % 2 + b % 2) % 2 := by
  have h := Nat.xor_mod_two_pow (a := a) (b := b) (n := 1)
  simp only [Nat.pow_one] at h
  rw [h]
  have ha : a % 2 = 0 ∨ a % 2 = 1 := by omega
  have hb : b % 2 = 0 ∨ b % 2 = 1 := by omega
  rcases ha with ha | ha <;> rcases hb with hb | hb <;> rw [ha, hb] <;> rfl
theorem cr_xor (a b : Nat) : cr (a ^^^ b) = cr a ^^^ cr b := by
  unfold cr
  rw [xor_half, xor_odd]
  have ha : a % 2 = 0 ∨ a % 2 = 1 := by omega
  have hb : b % 2 = 0 ∨ b % 2 = 1 := by omega
  generalize a / 2 = p
  generalize b / 2 = q
  generalize 3988292384 = P
  rcases ha with ha | ha <;> rcases hb with hb | hb <;> rw [ha, hb]
  · simp
  · simp [Nat.xor_assoc]
  · simp only [Nat.reduceAdd, Nat.reduceMod, if_true, if_neg, Nat.zero_ne_one, if_false, Nat.xor_zero]
    rw [Nat.xor_assoc, Nat.xor_assoc, Nat.xor_comm P q]
  · simp only [Nat.reduceAdd, Nat.reduceMod, if_true, Nat.zero_ne_one, if_false, Nat.xor_zero]
    rw [Nat.xor_assoc p P, ← Nat.xor_assoc P q P, Nat.xor_comm P q, Nat.xor_assoc q P P, Nat.xor_self, Nat.xor_zero]
theorem crN_xor : ∀ (n a b : Nat), crN n (a ^^^ b) = crN n a ^^^ crN n b
  | 0, _, _ => rfl
  | n + 1, a, b => by rw [crN, cr_xor, crN_xor n, ← crN, ← crN]
theorem crN_split : ∀ (n x : Nat), crN n x = x / 2 ^ n ^^^ crN n (x % 2 ^ n)
  | 0, x => by simp [crN, Nat.mod_one]
  | n + 1, x => by
    rw [crN, crN]
    unfold cr
    rw [crN_xor, crN_xor, crN_split n (x / 2)]
    have e1 : x % 2 ^ (n + 1) / 2 = x / 2 % 2 ^ n := by
      rw [Nat.pow_succ, Nat.mul_comm, Nat.mod_mul_right_div_self]
    have e2 : x % 2 ^ (n + 1) % 2 = x % 2 := by
      rw [Nat.pow_succ, Nat.mul_comm, Nat.mod_mul_right_mod]
    have e3 : x / 2 / 2 ^ n = x / 2 ^ (n + 1) := by
      rw [Nat.div_div_eq_div_mul, Nat.pow_succ, Nat.mul_comm]
    rw [e1, e2, e3, Nat.xor_assoc]
theorem crS_byte (x b : Nat) (hb : b < 256) : x / 256 ^^^ crN 8 (x % 256 ^^^ b) = crS x b := by
  unfold crS
  rw [crN_split 8 (x ^^^ b), xor_div, Nat.xor_mod_two_pow]
  rw [show (2 : Nat) ^ 8 = 256 from rfl, Nat.div_eq_of_lt hb, Nat.xor_zero, Nat.mod_eq_of_lt hb]
theorem cr_lt {x : Nat} (h : x < 4294967296) : cr x < 4294967296 := by
  unfold cr
  refine Nat.xor_lt_two_pow (n := 32) (by omega) ?_
  split <;> omega
theorem crN_lt : ∀ (n : Nat) {x : Nat}, x < 4294967296 → crN n x < 4294967296
  | 0, _, h => h
  | n + 1, _, h => crN_lt n (cr_lt h)
theorem crS_lt {x b : Nat} (h : x < 4294967296) (hb : b < 256) : crS x b < 4294967296 :=
  crN_lt 8 (Nat.xor_lt_two_pow (n := 32) h (by omega))
theorem crcL_lt : ∀ (l : List UInt8) {x : Nat}, x < 4294967296 → crcL x l < 4294967296
  | [], _, h => h
  | b :: l, _, h => crcL_lt l (crS_lt h b.toNat_lt)
theorem crcV_lt (l : List UInt8) : crcV l < 4294967296 := Nat.xor_lt_two_pow (n := 32) (crcL_lt l (by decide)) (by decide)
theorem crcL_snoc (x : Nat) (l : List UInt8) (b : UInt8) : crcL x (l ++ [b]) = crS (crcL x l) b.toNat := by simp [crcL]
theorem crN_snoc : ∀ (n x : Nat), crN (n + 1) x = cr (crN n x)
  | 0, _ => rfl
  | n + 1, x => by rw [crN, crN_snoc n (cr x), ← crN]
theorem cr_bits (x : Nat) (h : x < 4294967296) : bits .xor .u32 ((x : Int) / 2) (bits .and .u32 3988292384 (IntKind.u32.wrap (-(bits .and .u32 (x : Int) 1)))) = ((cr x : Nat) : Int) := by
  have e1 : bits .and .u32 (x : Int) 1 = ((x % 2 : Nat) : Int) := by
    have := u32_and_nat x 1 h (by decide)
    rw [show ((1 : Nat) : Int) = 1 from rfl] at this
    rw [this, Nat.and_one_is_mod]
  rw [e1]
  have hx : x % 2 = 0 ∨ x % 2 = 1 := by omega
  have e2 : ((x : Int) / 2) = ((x / 2 : Nat) : Int) := by omega
  rw [e2]
  unfold cr
  rcases hx with hx | hx
  · rw [hx, if_neg (by decide)]
    have e3 : bits .and .u32 3988292384 (IntKind.u32.wrap (-((0 : Nat) : Int))) = ((0 : Nat) : Int) := by decide +kernel
    rw [e3, u32_xor_nat _ _ (by omega) (by decide)]
  · rw [hx, if_pos rfl]
    have e3 : bits .and .u32 3988292384 (IntKind.u32.wrap (-((1 : Nat) : Int))) = ((3988292384 : Nat) : Int) := by decide +kernel
    rw [e3, u32_xor_nat _ _ (by omega) (by decide)]
theorem crs_bits (x j b : Nat) (h : x < 4294967296) (hj : j = x % 256 ^^^ b) (hb : b < 256) : bits .xor .u32 ((x : Int) / 256) ((crN 8 j : Nat) : Int) = ((crS x b : Nat) : Int) := by
  have hj2 : j < 4294967296 := by rw [hj]; exact Nat.xor_lt_two_pow (n := 32) (by omega) (by omega)
  rw [show ((x : Int) / 256) = ((x / 256 : Nat) : Int) by omega, u32_xor_nat _ _ (by omega) (crN_lt 8 hj2), hj, crS_byte x b hb]
end Go.Proofs.Ythdenjokedmcfaa
