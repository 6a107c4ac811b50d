/- Plain lemmas on numbers and their bytes: no program in sight. No condition. -/
import Derived.Lib.Zigzag
import Derived.Lib.ItoaNum
import Derived.Laws.BitsAllLaws
import Derived.WalkKit
namespace Go.Proofs.YtokjkfbbejalhaaDoor
open Go.RowKit

theorem ret_int {k : IntKind} {a b : Int} (h : a = b) : Ending.returned (.int k a) = .returned (.int k b) := by rw [h]
theorem ret_bool {a b : Bool} (h : a = b) : Ending.returned (.bool a) = .returned (.bool b) := by rw [h]

/-- 2 to the 64. -/
def U64 : Nat := 18446744073709551616

/-- A number's bytes (f: room enough). -/
def leb : Nat → Nat → List UInt8
  | 0, _ => []
  | f + 1, n => if n < 128 then [UInt8.ofNat n] else UInt8.ofNat (n % 128 + 128) :: leb f (n / 128)

theorem or128 : ∀ x : Fin 256, bits BinOp.or IntKind.u8 ((x.val : Nat) : Int) 128 = ((UInt8.ofNat (x.val % 128 + 128)).toNat : Int) := by decide +kernel
theorem or128' (m : Nat) : bits BinOp.or IntKind.u8 ((m : Int) % 256) 128 = ((UInt8.ofNat (m % 128 + 128)).toNat : Int) := by
  have h := or128 ⟨m % 256, Nat.mod_lt _ (by omega)⟩
  simp only at h
  rw [show ((m % 256 : Nat) : Int) = (m : Int) % 256 from by omega, show m % 256 % 128 = m % 128 from by omega] at h
  exact h
theorem u64_quo (m : Nat) (h : m < U64) : IntKind.u64.wrap ((m : Int) / 128) = (m : Int) / 128 := by
  rw [IntKind.wrap_u64]; unfold U64 at h; omega
theorem leb_more (f m : Nat) (h : 128 ≤ m) : leb (f + 1) m = UInt8.ofNat (m % 128 + 128) :: leb f (m / 128) := by
  rw [leb, if_neg (by omega)]
theorem leb_last (f m : Nat) (h : m < 128) : leb (f + 1) m = [UInt8.ofNat m] := by
  rw [leb, if_pos h]
theorem pow_succ128 (f m : Nat) (h : m < 128 ^ (f + 1)) : m / 128 < 128 ^ f := by
  rw [Nat.pow_succ] at h
  exact Nat.div_lt_of_lt_mul (by rw [Nat.mul_comm]; exact h)
theorem leb_len_le : ∀ (f n : Nat), (leb f n).length ≤ f
  | 0, _ => Nat.le_refl _
  | f + 1, n => by
    rw [leb]
    split
    · simp
    · have := leb_len_le f (n / 128)
      simp; omega
theorem leb_pos (f n : Nat) : 1 ≤ (leb (f + 1) n).length := by
  rw [leb]; split <;> simp
theorem bl_half (n : Nat) (h : n < U64) (h0 : n ≠ 0) : Lib.bitLen n = 1 + Lib.bitLen (n / 2) := by
  unfold U64 at h
  unfold Lib.bitLen
  rw [show (64 : Nat) = 63 + 1 from rfl, Lib.bitLenAux, if_neg h0, ← Lib.bitLenAux_fuel 63 (n / 2) (by omega) (63 + 1) (by omega)]
theorem bl_128 (n : Nat) (h : n < U64) (h0 : 128 ≤ n) : Lib.bitLen n = 7 + Lib.bitLen (n / 128) := by
  unfold U64 at h
  rw [bl_half n (by unfold U64; omega) (by omega), bl_half (n / 2) (by unfold U64; omega) (by omega), bl_half (n / 2 / 2) (by unfold U64; omega) (by omega), bl_half (n / 2 / 2 / 2) (by unfold U64; omega) (by omega),
    bl_half (n / 2 / 2 / 2 / 2) (by unfold U64; omega) (by omega), bl_half (n / 2 / 2 / 2 / 2 / 2) (by unfold U64; omega) (by omega), bl_half (n / 2 / 2 / 2 / 2 / 2 / 2) (by unfold U64; omega) (by omega)]
  rw [show n / 2 / 2 / 2 / 2 / 2 / 2 / 2 = n / 128 from by omega]
  omega
theorem bl_zero : Lib.bitLen 0 = 0 := by decide +kernel
theorem bl_le (n k : Nat) (hk : k ≤ 64) (h : n < 2 ^ k) : Lib.bitLen n ≤ k := Lib.bitLen_le n k hk h
theorem bl_bounds (n : Nat) (h : n < U64) (h0 : n ≠ 0) : 1 ≤ Lib.bitLen n ∧ 2 ^ (Lib.bitLen n - 1) ≤ n ∧ n < 2 ^ Lib.bitLen n := Lib.bitLenAux_bounds 64 n h h0
/-- How many bytes a number has. -/
def lsz (n : Nat) : Nat := max 1 ((Lib.bitLen n + 6) / 7)
theorem leb_len : ∀ (f n : Nat), n < 128 ^ (f + 1) → n < U64 → (leb (f + 1) n).length = lsz n := by
  intro f
  induction f with
  | zero =>
    intro n h h'
    rw [leb_last 0 n (by simpa using h)]
    have := bl_le n 7 (by omega) (by simpa using h)
    simp [lsz]; omega
  | succ f ih =>
    intro n h h'
    by_cases hc : n < 128
    · rw [leb_last _ n hc]
      have := bl_le n 7 (by omega) (by simpa using hc)
      simp [lsz]; omega
    · have h1 := bl_128 n h' (by omega)
      have h2 := bl_half (n / 128) (by unfold U64 at *; omega) (by omega)
      rw [leb_more _ n (by omega), List.length_cons, ih (n / 128) (pow_succ128 _ _ h) (by unfold U64 at *; omega)]
      unfold lsz
      omega
theorem u64_pow (n : Nat) (h : n < U64) : n < 128 ^ 10 := by unfold U64 at h; omega
theorem leb10_len (n : Nat) (h : n < U64) : (leb 10 n).length = lsz n := leb_len 9 n (u64_pow n h) h
theorem lsz_le (n : Nat) (h : n < U64) : lsz n ≤ 10 := by rw [← leb10_len n h]; exact leb_len_le _ _
theorem lsz_one (n : Nat) (h : n < U64) : lsz n = 1 ↔ n < 128 := by
  constructor
  · intro h1
    rcases Nat.lt_or_ge n 128 with h2 | h2
    · exact h2
    · have h3 := bl_128 n h h2
      have h4 := bl_half (n / 128) (by unfold U64 at *; omega) (by omega)
      unfold lsz at h1; omega
  · intro h1
    have := bl_le n 7 (by omega) (by simpa using h1)
    unfold lsz; omega
theorem byte_lo (m : Nat) (h : m < 128) : (UInt8.ofNat m).toNat = m := by simp; omega
theorem byte_hi (m : Nat) : (UInt8.ofNat (m % 128 + 128)).toNat = m % 128 + 128 := by simp; omega
theorem byte_ne (a b : Nat) (h : a < 128) : UInt8.ofNat a ≠ UInt8.ofNat (b % 128 + 128) := by
  intro e
  have h1 := byte_lo a h
  have h2 := byte_hi b
  rw [e, h2] at h1
  omega
/-- No number's bytes begin another one's. -/
theorem leb_prefix : ∀ (f a b : Nat), a < 128 ^ (f + 1) → b < 128 ^ (f + 1) → (leb (f + 1) a) <+: (leb (f + 1) b) → a = b := by
  intro f
  induction f with
  | zero =>
    intro a b ha hb h
    rw [leb_last 0 a (by simpa using ha), leb_last 0 b (by simpa using hb), List.cons_prefix_cons] at h
    have h1 := byte_lo a (by simpa using ha)
    rw [h.1, byte_lo b (by simpa using hb)] at h1
    exact h1.symm
  | succ f ih =>
    intro a b ha hb h
    by_cases h1 : a < 128 <;> by_cases h2 : b < 128
    · rw [leb_last _ a h1, leb_last _ b h2, List.cons_prefix_cons] at h
      have h3 := byte_lo a h1
      rw [h.1, byte_lo b h2] at h3
      exact h3.symm
    · rw [leb_last _ a h1, leb_more _ b (by omega), List.cons_prefix_cons] at h
      exact absurd h.1 (byte_ne a b h1)
    · rw [leb_more _ a (by omega), leb_last _ b h2, List.cons_prefix_cons] at h
      exact absurd h.1.symm (byte_ne b a h2)
    · rw [leb_more _ a (by omega), leb_more _ b (by omega), List.cons_prefix_cons] at h
      have h3 := ih _ _ (pow_succ128 _ _ ha) (pow_succ128 _ _ hb) h.2
      have h4 := byte_hi a
      rw [h.1, byte_hi b] at h4
      omega
theorem leb_inj (a b : Nat) (ha : a < U64) (hb : b < U64) (h : leb 10 a = leb 10 b) : a = b :=
  leb_prefix 9 a b (u64_pow a ha) (u64_pow b hb) (h ▸ List.prefix_refl _)

/-- A number with a sign as one without, and back. -/
def foldV (n : Int) : Nat := if 0 ≤ n then (2 * n).toNat else (-(2 * n) - 1).toNat
def unfoldV (m : Nat) : Int := if m % 2 = 0 then (m / 2 : Nat) else -((m / 2 : Nat) : Int) - 1
theorem fold_lt (n : Int) (h0 : -9223372036854775808 ≤ n) (h1 : n ≤ 9223372036854775807) : foldV n < U64 := by
  unfold foldV U64; split <;> omega
theorem unfold_fold (n : Int) : unfoldV (foldV n) = n := by
  unfold unfoldV foldV; split <;> split <;> omega
theorem fold_unfold (m : Nat) : foldV (unfoldV m) = m := by
  unfold unfoldV foldV; split <;> split <;> omega
theorem unfold_range (m : Nat) (h : m < U64) : -9223372036854775808 ≤ unfoldV m ∧ unfoldV m ≤ 9223372036854775807 := by
  unfold unfoldV; unfold U64 at h; split <;> omega
theorem fold_bits (n : Int) (h0 : -9223372036854775808 ≤ n) (h1 : n ≤ 9223372036854775807) :
    bits BinOp.xor IntKind.u64 (IntKind.u64.wrap (wrap64 (n * 2))) (IntKind.u64.wrap (n / 9223372036854775808)) = (foldV n : Int) := by
  unfold foldV
  by_cases hn : 0 ≤ n
  · have e1 : IntKind.u64.wrap (wrap64 (n * 2)) = (((2 * n).toNat : Nat) : Int) := by rw [IntKind.wrap_u64]; unfold wrap64; omega
    have e2 : IntKind.u64.wrap (n / 9223372036854775808) = ((0 : Nat) : Int) := by rw [IntKind.wrap_u64]; omega
    rw [e1, e2, u64_xor_nat _ _ (by omega) (by omega), if_pos hn]
    simp
  · have e1 : IntKind.u64.wrap (wrap64 (n * 2)) = (((2 * n + 18446744073709551616).toNat : Nat) : Int) := by rw [IntKind.wrap_u64]; unfold wrap64; omega
    have e2 : IntKind.u64.wrap (n / 9223372036854775808) = ((2 ^ 64 - 1 : Nat) : Int) := by rw [IntKind.wrap_u64]; omega
    rw [e1, e2, u64_xor_nat _ _ (by omega) (by omega), Nat.xor_comm, Lib.xor_ones64 _ (by omega), if_neg hn]
    omega
theorem unfold_bits (m : Nat) (h : m < U64) :
    bits BinOp.xor IntKind.i64 (wrap64 ((m : Int) / 2)) (wrap64 (-wrap64 (bits BinOp.and IntKind.u64 (m : Int) 1))) = unfoldV m := by
  unfold U64 at h
  rw [Lib.u64_and1 _ (by omega) (by omega)]
  have e0 : wrap64 ((m : Int) / 2) = ((m / 2 : Nat) : Int) := by unfold wrap64; omega
  rw [e0]
  unfold unfoldV
  by_cases h2 : m % 2 = 0
  · have e1 : wrap64 (-wrap64 ((m : Int) % 2)) = 0 := by unfold wrap64; omega
    rw [e1, if_pos h2]
    show IntKind.i64.wrap ((BitVec.ofInt 64 ((m / 2 : Nat) : Int) ^^^ BitVec.ofInt 64 0).toNat : Int) = _
    have h3 : (BitVec.ofInt 64 ((m / 2 : Nat) : Int)).toNat = m / 2 := by
      rw [BitVec.ofInt_natCast, BitVec.toNat_ofNat]; exact Nat.mod_eq_of_lt (by omega)
    have h4 : (BitVec.ofInt 64 0).toNat = 0 := by decide
    rw [BitVec.toNat_xor, h3, h4, Nat.xor_zero, IntKind.wrap_i64]
    omega
  · have e1 : wrap64 (-wrap64 ((m : Int) % 2)) = -1 := by unfold wrap64; omega
    rw [e1, if_neg h2]
    have := Lib.i64_not (m / 2) (by omega)
    have hc : bits BinOp.xor IntKind.i64 ((m / 2 : Nat) : Int) (-1) = bits BinOp.xor IntKind.i64 (-1) ((m / 2 : Nat) : Int) := by
      unfold bits
      simp only
      rw [BitVec.xor_comm]
    rw [hc, this]

/-- What Get answers from a place on: the number, the error, the place then. (f rounds are left; k bytes, worth acc, have been read.) -/
def lgo (s : ByteArray) (at_ : Nat) : Nat → Nat → Nat → Nat × Nat × Nat
  | 0, _, _ => (0, 3, at_)
  | f + 1, k, acc =>
    if h : at_ + k < s.size then
      if (s[at_ + k].toNat = 0 ∧ 0 < k) ∨ (1 < s[at_ + k].toNat ∧ k = 9) then (0, 3, at_)
      else if s[at_ + k].toNat < 128 then (acc + s[at_ + k].toNat * 128 ^ k, 0, at_ + k + 1)
      else lgo s at_ f (k + 1) (acc + s[at_ + k].toNat % 128 * 128 ^ k)
    else (0, 2, at_)
def lget (s : ByteArray) (at_ : Nat) : Nat × Nat × Nat := lgo s at_ 10 0 0
section
variable {s : ByteArray} {p k acc : Nat}
theorem lgo_out : lgo s p (10 - 10) k acc = (0, 3, p) := rfl
theorem lgo_end (hk : k < 10) (h : ¬ p + k < s.size) : lgo s p (10 - k) k acc = (0, 2, p) := by
  rw [show 10 - k = (9 - k) + 1 from by omega, lgo, dif_neg h]
theorem lgo_bad (hk : k < 10) (h : p + k < s.size) {c : Nat} (hc : c = s[p + k].toNat) (hb : (c = 0 ∧ 0 < k) ∨ (1 < c ∧ k = 9)) : lgo s p (10 - k) k acc = (0, 3, p) := by
  subst hc
  rw [show 10 - k = (9 - k) + 1 from by omega, lgo, dif_pos h, if_pos hb]
theorem lgo_last (hk : k < 10) (h : p + k < s.size) {c : Nat} (hc : c = s[p + k].toNat) (hb : ¬ ((c = 0 ∧ 0 < k) ∨ (1 < c ∧ k = 9))) (hl : c < 128) : lgo s p (10 - k) k acc = (acc + c % 128 * 128 ^ k, 0, p + k + 1) := by
  rw [Nat.mod_eq_of_lt hl]
  subst hc
  rw [show 10 - k = (9 - k) + 1 from by omega, lgo, dif_pos h, if_neg hb, if_pos hl]
theorem lgo_go (hk : k < 10) (h : p + k < s.size) {c : Nat} (hc : c = s[p + k].toNat) (hb : ¬ ((c = 0 ∧ 0 < k) ∨ (1 < c ∧ k = 9))) (hl : ¬ c < 128) : lgo s p (10 - k) k acc = lgo s p (10 - (k + 1)) (k + 1) (acc + c % 128 * 128 ^ k) := by
  subst hc
  rw [show 10 - k = (9 - k) + 1 from by omega, lgo, dif_pos h, if_neg hb, if_neg hl, show 10 - (k + 1) = 9 - k from by omega]
end
theorem and127 : ∀ x : Fin 256, bits BinOp.and IntKind.u8 ((x.val : Nat) : Int) 127 = ((x.val % 128 : Nat) : Int) := by decide +kernel
theorem acc_fit (acc c k : Nat) (hk : k < 10) (ha : acc < 128 ^ k) (h9 : ¬ (1 < c ∧ k = 9)) : acc + c % 128 * 128 ^ k < U64 ∧ acc + c % 128 * 128 ^ k < 128 ^ (k + 1) ∧ c % 128 * 128 ^ k < U64 := by
  have hd : c % 128 < 128 := Nat.mod_lt _ (by omega)
  have h1 : acc + c % 128 * 128 ^ k < 128 ^ (k + 1) := by
    have : c % 128 * 128 ^ k ≤ 127 * 128 ^ k := Nat.mul_le_mul_right _ (by omega)
    rw [Nat.pow_succ]; omega
  have h2 : acc + c % 128 * 128 ^ k < U64 := by
    by_cases h : k = 9
    · subst h
      have : c % 128 ≤ 1 := by omega
      have h3 : c % 128 * 128 ^ 9 ≤ 1 * 128 ^ 9 := Nat.mul_le_mul_right _ this
      unfold U64; omega
    · have : 128 ^ (k + 1) ≤ 128 ^ 9 := Nat.pow_le_pow_right (by omega) (by omega)
      unfold U64; omega
  exact ⟨h2, h1, by omega⟩
theorem acc_bits (acc c k : Nat) (hc : c < 256) (hk : k < 10) (ha : acc < 128 ^ k) (h9 : ¬ (1 < c ∧ k = 9)) :
    bits BinOp.or IntKind.u64 (acc : Int) (IntKind.u64.wrap (IntKind.u64.wrap (bits BinOp.and IntKind.u8 (c : Int) 127) * 2 ^ (7 * k))) = ((acc + c % 128 * 128 ^ k : Nat) : Int) := by
  obtain ⟨h1, h2, h3⟩ := acc_fit acc c k hk ha h9
  have e1 := and127 ⟨c, hc⟩
  simp only at e1
  have e2 : IntKind.u64.wrap ((c % 128 : Nat) : Int) = ((c % 128 : Nat) : Int) := by rw [IntKind.wrap_u64]; omega
  have e3 : ((c % 128 : Nat) : Int) * 2 ^ (7 * k) = ((c % 128 * 128 ^ k : Nat) : Int) := by
    rw [Int.natCast_mul, Int.natCast_pow, show ((128 : Nat) : Int) = 2 ^ 7 from rfl, ← Int.pow_mul]
  have e4 : IntKind.u64.wrap ((c % 128 * 128 ^ k : Nat) : Int) = ((c % 128 * 128 ^ k : Nat) : Int) := by
    rw [IntKind.wrap_u64]; unfold U64 at h3; omega
  unfold U64 at h1 h3
  rw [e1, e2, e3, e4, u64_or_nat _ _ (by omega) (by omega)]
  congr 1
  rw [Nat.or_comm, show (128 : Nat) = 2 ^ 7 from rfl, ← Nat.pow_mul, ← Nat.shiftLeft_eq]
  rw [show (128 : Nat) = 2 ^ 7 from rfl, ← Nat.pow_mul] at ha
  rw [← Nat.shiftLeft_add_eq_or_of_lt ha, Nat.add_comm]

theorem u64_of {a : Int} (h : (Lit.int .u64 a).wf = true) : ∃ n : Nat, a = n ∧ n < U64 := by
  have h1 : 0 ≤ a ∧ a ≤ 18446744073709551615 := by
    simpa [Lit.wf, IntKind.min, IntKind.max, IntKind.signed, IntKind.bits] using h
  exact ⟨a.toNat, by omega, by unfold U64; omega⟩
theorem u32_of {a : Int} (h : (Lit.int .u32 a).wf = true) : ∃ n : Nat, a = n ∧ n < 4294967296 := by
  have h1 : 0 ≤ a ∧ a ≤ 4294967295 := by
    simpa [Lit.wf, IntKind.min, IntKind.max, IntKind.signed, IntKind.bits] using h
  exact ⟨a.toNat, by omega, by omega⟩
theorem i64_of {a : Int} (h : (Lit.int .i64 a).wf = true) : -9223372036854775808 ≤ a ∧ a ≤ 9223372036854775807 := by
  simpa [Lit.wf, IntKind.min, IntKind.max, IntKind.signed, IntKind.bits] using h

/-- The byte at a place (0 behind the end), and what k of them are worth. -/
def bt (s : ByteArray) (i : Nat) : Nat := if h : i < s.size then s[i].toNat else 0
theorem bt_of {s : ByteArray} {i : Nat} (h : i < s.size) : bt s i = s[i].toNat := dif_pos h
theorem bt_lt (s : ByteArray) (i : Nat) : bt s i < 256 := by
  unfold bt; split
  · exact UInt8.toNat_lt _
  · omega
def acc7 (s : ByteArray) (p : Nat) : Nat → Nat
  | 0 => 0
  | k + 1 => acc7 s p k + bt s (p + k) % 128 * 128 ^ k
theorem acc7_lt (s : ByteArray) (p : Nat) : ∀ k, acc7 s p k < 128 ^ k
  | 0 => by simp [acc7]
  | k + 1 => by
    have h1 := acc7_lt s p k
    have : bt s (p + k) % 128 * 128 ^ k ≤ 127 * 128 ^ k := Nat.mul_le_mul_right _ (by have := Nat.mod_lt (bt s (p + k)) (show 128 > 0 by omega); omega)
    rw [acc7, Nat.pow_succ]; omega
theorem horner (s : ByteArray) (p k j n : Nat) (h : n * 128 ^ (j + 1) + acc7 s p (j + 1) = acc7 s p (k + 1)) : (n * 128 + bt s (p + j) % 128) * 128 ^ j + acc7 s p j = acc7 s p (k + 1) := by
  rw [← h, acc7, Nat.pow_succ, Nat.add_mul, Nat.mul_assoc n 128, Nat.mul_comm 128 (128 ^ j)]
  omega
theorem horner_lt (s : ByteArray) (p k j n : Nat) (h : n * 128 ^ j + acc7 s p j = acc7 s p (k + 1)) : n ≤ acc7 s p (k + 1) := by
  have : n * 1 ≤ n * 128 ^ j := Nat.mul_le_mul_left _ (Nat.one_le_pow _ _ (by omega))
  omega
theorem wrap_horner (m b : Nat) (h : m * 128 + b % 128 < U64) : IntKind.u64.wrap (IntKind.u64.wrap ((m : Int) * 128) + (b : Int) % 128) = ((m * 128 + b % 128 : Nat) : Int) := by
  rw [IntKind.wrap_u64, IntKind.wrap_u64]; unfold U64 at h; omega
end Go.Proofs.YtokjkfbbejalhaaDoor
