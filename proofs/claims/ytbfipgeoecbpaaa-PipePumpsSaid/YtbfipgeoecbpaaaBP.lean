/- A bundle of: NumB NumS Crc Ev Coil. -/
import Derived.Test.YtbfipgeoecbpaaaNum
/- More plain lemmas on numbers' bytes: what is put is got. -/
namespace Go.Proofs.Ytbfipgeoecbpaaa
open Go.RowKit
theorem at_drop {s : ByteArray} {i : Nat} {b : UInt8} {r : List UInt8} (h : s.data.toList.drop i = b :: r) : ∃ h' : i < s.size, s[i] = b := by
  have hlen : s.data.toList.length = s.size := by simp
  have h1 : i < s.data.toList.length := by
    rcases Nat.lt_or_ge i s.data.toList.length with h2 | h2
    · exact h2
    · rw [List.drop_eq_nil_of_le h2] at h; cases h
  refine ⟨by omega, ?_⟩
  have h3 := List.drop_eq_getElem_cons h1
  rw [h] at h3
  have h4 := (List.cons.inj h3).1
  rw [h4]
  simp
  rfl
theorem drop_step {l : List UInt8} {i : Nat} {b : UInt8} {r : List UInt8} (h : l.drop i = b :: r) : l.drop (i + 1) = r := by
  rw [← List.tail_drop, h]; rfl
/-- What was put is got. -/
theorem lgo_back (s : ByteArray) (p : Nat) : ∀ (f n k acc : Nat) (post : List UInt8), f + k = 9 → n < 128 ^ (f + 1) → n * 128 ^ k < U64 → (0 < k → 0 < n) →
    s.data.toList.drop (p + k) = leb (f + 1) n ++ post → lgo s p (f + 1) k acc = (acc + n * 128 ^ k, 0, p + k + (leb (f + 1) n).length) := by
  intro f
  induction f with
  | zero =>
    intro n k acc post hfk hn hu hk hd
    have h9 : k = 9 := by omega
    have hn1 : n < 128 := by simpa using hn
    rw [leb_last 0 n hn1] at hd ⊢
    obtain ⟨h', hb⟩ := at_drop (by simpa using hd)
    have hc : s[p + k].toNat = n := by rw [hb]; exact byte_lo n hn1
    have hle : n ≤ 1 := by subst h9; unfold U64 at hu; omega
    have := hk (by omega)
    rw [lgo, dif_pos h', if_neg (by rw [hc]; omega), if_pos (by rw [hc]; exact hn1), hc]
    simp
  | succ f ih =>
    intro n k acc post hfk hn hu hk hd
    by_cases hn1 : n < 128
    · rw [leb_last _ n hn1] at hd ⊢
      obtain ⟨h', hb⟩ := at_drop (by simpa using hd)
      have hc : s[p + k].toNat = n := by rw [hb]; exact byte_lo n hn1
      rw [lgo, dif_pos h', if_neg (by rw [hc]; omega), if_pos (by rw [hc]; exact hn1), hc]
      simp
    · rw [leb_more _ n (by omega)] at hd ⊢
      obtain ⟨h', hb⟩ := at_drop (by simpa only [List.cons_append] using hd)
      have hc : s[p + k].toNat = n % 128 + 128 := by rw [hb]; exact byte_hi n
      have hd' := drop_step (by simpa only [List.cons_append] using hd)
      have e1 : n / 128 * 128 ^ (k + 1) + n % 128 * 128 ^ k = n * 128 ^ k := by
        rw [Nat.pow_succ, Nat.mul_comm (128 ^ k) 128, ← Nat.mul_assoc, ← Nat.add_mul]
        congr 1
        omega
      have := ih (n / 128) (k + 1) (acc + n % 128 * 128 ^ k) post (by omega) (pow_succ128 _ _ hn) (by omega) (fun _ => by omega) (by rw [← hd']; congr 1)
      rw [lgo, dif_pos h', if_neg (by rw [hc]; omega), if_neg (by rw [hc]; omega), hc, show (n % 128 + 128) % 128 = n % 128 from by omega, this]
      simp only [List.length_cons, Prod.mk.injEq, true_and]
      omega
theorem lget_back (s : ByteArray) (n : Nat) (pre post : List UInt8) (hn : n < U64) (hs : s.data.toList = pre ++ leb 10 n ++ post) : lget s pre.length = (n, 0, pre.length + (leb 10 n).length) := by
  have := lgo_back s pre.length 9 n 0 0 post rfl (u64_pow n hn) (by simpa using hn) (fun h => absurd h (by omega)) (by rw [hs]; simp)
  simpa [lget] using this
end Go.Proofs.Ytbfipgeoecbpaaa
/- Plain lemmas on numbers by sevens (layer 4): no program in sight. -/
namespace Go.Proofs.Ytbfipgeoecbpaaa
open Go.RowKit

/-- A number as so many bytes. -/
def sep : Nat → Nat → List UInt8
  | 0, _ => []
  | c + 1, n => UInt8.ofNat (n % 128) :: sep c (n / 128)
theorem sep_len : ∀ c n, (sep c n).length = c
  | 0, _ => rfl
  | c + 1, n => by simp [sep, sep_len c]
/-- Does it fit? -/
def fitsB (n : Nat) (count : Int) : Bool := decide (1 ≤ count) && (decide (count ≤ 10) && decide (n < 128 ^ count.toNat))
theorem bl_fits (n c : Nat) (hn : n < U64) (hc : c ≤ 10) : Lib.bitLen n ≤ 7 * c ↔ n < 128 ^ c := by
  rw [show (128 : Nat) = 2 ^ 7 from rfl, ← Nat.pow_mul]
  constructor
  · intro h
    by_cases h0 : n = 0
    · subst h0; exact Nat.two_pow_pos _
    · have := bl_bounds n hn h0
      exact Nat.lt_of_lt_of_le this.2.2 (Nat.pow_le_pow_right (by omega) h)
  · intro h
    by_cases hk : 7 * c ≤ 64
    · exact bl_le n _ hk h
    · have := bl_le n 64 (by omega) (by unfold U64 at hn; omega)
      omega
/-- What Put answers: the error, the bytes. -/
def sput (n : Nat) (count : Int) : Nat × List UInt8 :=
  if count < 1 ∨ 10 < count then (1, []) else if n < 128 ^ count.toNat then (0, sep count.toNat n) else (5, [])
/-- What Get answers: the number, the error, the place then. -/
def sgo (s : ByteArray) (p : Nat) : Nat → Nat → Nat → Nat × Nat × Nat
  | 0, k, acc => (acc, 0, p + k)
  | f + 1, k, acc =>
    if h : p + k < s.size then
      if 127 < s[p + k].toNat ∨ (k = 9 ∧ 1 < s[p + k].toNat) then (0, 3, p)
      else sgo s p f (k + 1) (acc + s[p + k].toNat * 128 ^ k)
    else (0, 2, p)
def sget (s : ByteArray) (p : Nat) (count : Int) : Nat × Nat × Nat := if count < 1 ∨ 10 < count then (0, 1, p) else sgo s p count.toNat 0 0
section
variable {s : ByteArray} {p k acc f : Nat}
theorem sgo_end (h : ¬ p + k < s.size) : sgo s p (f + 1) k acc = (0, 2, p) := by rw [sgo, dif_neg h]
theorem sgo_bad (h : p + k < s.size) {c : Nat} (hc : c = s[p + k].toNat) (hb : 127 < c ∨ (k = 9 ∧ 1 < c)) : sgo s p (f + 1) k acc = (0, 3, p) := by
  subst hc; rw [sgo, dif_pos h, if_pos hb]
theorem sgo_go (h : p + k < s.size) {c : Nat} (hc : c = s[p + k].toNat) (hb : ¬ (127 < c ∨ (k = 9 ∧ 1 < c))) : sgo s p (f + 1) k acc = sgo s p f (k + 1) (acc + c * 128 ^ k) := by
  subst hc; rw [sgo, dif_pos h, if_neg hb]
end
theorem sgo_next (s : ByteArray) (p : Nat) : ∀ (f k acc : Nat), p ≤ s.size → p + k ≤ s.size → (sgo s p f k acc).2.2 ≤ s.size ∧ ((sgo s p f k acc).2.1 ≠ 0 → (sgo s p f k acc).1 = 0 ∧ (sgo s p f k acc).2.2 = p) ∧ ((sgo s p f k acc).2.1 = 0 → (sgo s p f k acc).2.2 = p + k + f)
  | 0, k, acc, _, hk => ⟨hk, fun h => absurd rfl h, fun _ => rfl⟩
  | f + 1, k, acc, hp, hk => by
    rw [sgo]
    split
    · split
      · exact ⟨hp, fun _ => ⟨rfl, rfl⟩, fun h => by cases h⟩
      · have := sgo_next s p f (k + 1) (acc + s[p + k].toNat * 128 ^ k) hp (by omega)
        exact ⟨this.1, this.2.1, fun h => by rw [this.2.2 h]; omega⟩
    · exact ⟨hp, fun _ => ⟨rfl, rfl⟩, fun h => by cases h⟩
theorem sget_next (s : ByteArray) (p : Nat) (count : Int) (hp : p ≤ s.size) : (sget s p count).2.2 ≤ s.size ∧ ((sget s p count).2.1 ≠ 0 → (sget s p count).1 = 0 ∧ (sget s p count).2.2 = p) := by
  unfold sget
  split
  · exact ⟨hp, fun _ => ⟨rfl, rfl⟩⟩
  · have := sgo_next s p count.toNat 0 0 hp (by omega)
    exact ⟨this.1, this.2.1⟩
theorem sacc_fit (acc c k : Nat) (hk : k < 10) (ha : acc < 128 ^ k) (hb : ¬ (127 < c ∨ (k = 9 ∧ 1 < c))) : acc + c * 128 ^ k < U64 ∧ acc + c * 128 ^ k < 128 ^ (k + 1) := by
  have h := acc_fit acc c k hk ha (fun h => hb (.inr ⟨h.2, h.1⟩))
  rw [Nat.mod_eq_of_lt (by omega)] at h
  exact ⟨h.1, h.2.1⟩
theorem sgo_lt (s : ByteArray) (p : Nat) : ∀ (f k acc : Nat), k + f ≤ 10 → acc < 128 ^ k → acc < U64 → (sgo s p f k acc).1 < U64
  | 0, k, acc, _, _, h => h
  | f + 1, k, acc, hk, ha, h => by
    rw [sgo]
    split
    · split
      · unfold U64; simp
      · rename_i hb
        have := sacc_fit acc _ k (by omega) ha hb
        exact sgo_lt s p f _ _ (by omega) this.2 this.1
    · unfold U64; simp
theorem sget_lt (s : ByteArray) (p : Nat) (count : Int) : (sget s p count).1 < U64 := by
  unfold sget
  split
  · unfold U64; simp
  · exact sgo_lt s p _ 0 0 (by omega) (by simp) (by unfold U64; omega)
theorem sacc_bits (acc c k : Nat) (hk : k < 10) (ha : acc < 128 ^ k) (hb : ¬ (127 < c ∨ (k = 9 ∧ 1 < c))) :
    bits BinOp.or IntKind.u64 (acc : Int) (IntKind.u64.wrap ((c : Int) * 2 ^ (7 * k))) = ((acc + c * 128 ^ k : Nat) : Int) := by
  obtain ⟨h1, h2⟩ := sacc_fit acc c k hk ha hb
  have e3 : (c : Int) * 2 ^ (7 * k) = ((c * 128 ^ k : Nat) : Int) := by
    rw [Int.natCast_mul, Int.natCast_pow, show ((128 : Nat) : Int) = 2 ^ 7 from rfl, ← Int.pow_mul]
  have e4 : IntKind.u64.wrap ((c * 128 ^ k : Nat) : Int) = ((c * 128 ^ k : Nat) : Int) := by
    rw [IntKind.wrap_u64]; unfold U64 at h1; omega
  unfold U64 at h1
  rw [e3, e4, u64_or_nat _ _ (by omega) (by omega)]
  congr 1
  rw [Nat.or_comm, show (128 : Nat) = 2 ^ 7 from rfl, ← Nat.pow_mul, ← Nat.shiftLeft_eq]
  rw [show (128 : Nat) = 2 ^ 7 from rfl, ← Nat.pow_mul] at ha
  rw [← Nat.shiftLeft_add_eq_or_of_lt ha, Nat.add_comm]
/-- What is put is got. -/
theorem sgo_back (s : ByteArray) (p : Nat) : ∀ (f n k acc : Nat) (post : List UInt8), f + k ≤ 10 → n < 128 ^ f → n * 128 ^ k < U64 → acc + n * 128 ^ k < U64 →
    s.data.toList.drop (p + k) = sep f n ++ post → sgo s p f k acc = (acc + n * 128 ^ k, 0, p + k + f) := by
  intro f
  induction f with
  | zero =>
    intro n k acc post _ hn _ _ _
    have : n = 0 := by simpa using hn
    subst this
    simp [sgo]
  | succ f ih =>
    intro n k acc post hfk hn hu ha hd
    obtain ⟨h', hb⟩ := at_drop (by simpa only [sep, List.cons_append] using hd)
    have hc : s[p + k].toNat = n % 128 := by rw [hb]; exact byte_lo _ (Nat.mod_lt _ (by omega))
    have hd' := drop_step (by simpa only [sep, List.cons_append] using hd)
    have e1 : n / 128 * 128 ^ (k + 1) + n % 128 * 128 ^ k = n * 128 ^ k := by
      rw [Nat.pow_succ, Nat.mul_comm (128 ^ k) 128, ← Nat.mul_assoc, ← Nat.add_mul]
      congr 1
      omega
    have h9 : k = 9 → n ≤ 1 := by intro h; subst h; unfold U64 at hu; omega
    have := ih (n / 128) (k + 1) (acc + n % 128 * 128 ^ k) post (by omega) (pow_succ128 _ _ hn) (by omega) (by omega) (by rw [← hd']; congr 1)
    rw [sgo_go h' hc.symm (by have := Nat.mod_lt n (show 128 > 0 by omega); have := Nat.mod_le n 128; omega), this]
    simp only [Prod.mk.injEq, true_and]
    omega
theorem sget_back (s : ByteArray) (n c : Nat) (pre post : List UInt8) (hc1 : 1 ≤ c) (hc : c ≤ 10) (hn : n < 128 ^ c) (hu : n < U64) (hs : s.data.toList = pre ++ sep c n ++ post) : sget s pre.length c = (n, 0, pre.length + c) := by
  have := sgo_back s pre.length c n 0 0 post (by omega) hn (by simpa using hu) (by simpa using hu) (by rw [hs]; simp)
  unfold sget
  rw [if_neg (by omega)]
  simpa using this
/-- Bytes that are got are put as they were. -/
theorem sgo_one (s : ByteArray) (p : Nat) : ∀ (f k acc n e nx : Nat), k + f ≤ 10 → acc < 128 ^ k → sgo s p f k acc = (n, e, nx) → e = 0 → n < 128 ^ (k + f) ∧ ∃ m, n = acc + m * 128 ^ k ∧ sep f m = (s.data.toList.drop (p + k)).take f := by
  intro f
  induction f with
  | zero =>
    intro k acc n e nx _ ha h he
    simp only [sgo, Prod.mk.injEq] at h
    obtain ⟨rfl, _, _⟩ := h
    exact ⟨by simpa using ha, 0, by simp, by simp [sep]⟩
  | succ f ih =>
    intro k acc n e nx hk ha h he
    rw [sgo] at h
    split at h
    · rename_i hlt
      split at h
      · simp only [Prod.mk.injEq] at h; omega
      · rename_i hb
        have hfit := sacc_fit acc _ k (by omega) ha hb
        obtain ⟨h1, m, h2, h3⟩ := ih (k + 1) _ n e nx (by omega) hfit.2 h he
        refine ⟨by rw [show k + (f + 1) = k + 1 + f from by omega]; exact h1, s[p + k].toNat + m * 128, ?_, ?_⟩
        · rw [h2, Nat.pow_succ, Nat.add_mul, Nat.mul_comm (128 ^ k) 128, ← Nat.mul_assoc]; omega
        · have hl : p + k < s.data.toList.length := by simpa using hlt
          have e1 : (s[p + k].toNat + m * 128) % 128 = s[p + k].toNat := by omega
          have e2 : (s[p + k].toNat + m * 128) / 128 = m := by omega
          rw [sep, e1, e2, h3, List.drop_eq_getElem_cons hl, List.take_succ_cons]
          have : s.data.toList[p + k] = s[p + k] := by simp; rfl
          rw [this]
          simp
          rfl
    · simp only [Prod.mk.injEq] at h; omega
theorem sep_inj (a b : Nat) : ∀ c, a < 128 ^ c → b < 128 ^ c → sep c a = sep c b → a = b := by
  intro c
  induction c generalizing a b with
  | zero => intro h1 h2 _; simp at h1 h2; omega
  | succ c ih =>
    intro h1 h2 h
    simp only [sep, List.cons.injEq] at h
    have e1 := byte_lo (a % 128) (Nat.mod_lt _ (by omega))
    have e2 := byte_lo (b % 128) (Nat.mod_lt _ (by omega))
    rw [h.1, e2] at e1
    have := ih (a / 128) (b / 128) (pow_succ128 _ _ h1) (pow_succ128 _ _ h2) h.2
    omega
theorem sep_low : ∀ c n, ∀ x ∈ sep c n, x.toNat < 128
  | 0, _, x, h => by cases h
  | c + 1, n, x, h => by
    simp only [sep, List.mem_cons] at h
    rcases h with rfl | h
    · rw [byte_lo _ (Nat.mod_lt _ (by omega))]; exact Nat.mod_lt _ (by omega)
    · exact sep_low c (n / 128) x h
/-- The value of k bytes, by Horner's way. -/
def acc8 (s : ByteArray) (p : Nat) : Nat → Nat
  | 0 => 0
  | k + 1 => acc8 s p k + bt s (p + k) * 128 ^ k
theorem horner8 (s : ByteArray) (p k j n : Nat) (h : n * 128 ^ (j + 1) + acc8 s p (j + 1) = acc8 s p k) : (n * 128 + bt s (p + j)) * 128 ^ j + acc8 s p j = acc8 s p k := by
  rw [← h, acc8, Nat.pow_succ, Nat.add_mul, Nat.mul_assoc n 128, Nat.mul_comm 128 (128 ^ j)]
  omega
theorem horner8_lt (s : ByteArray) (p k j n : Nat) (h : n * 128 ^ j + acc8 s p j = acc8 s p k) : n ≤ acc8 s p k := by
  have : n * 1 ≤ n * 128 ^ j := Nat.mul_le_mul_left _ (Nat.one_le_pow _ _ (by omega))
  omega
end Go.Proofs.Ytbfipgeoecbpaaa
/- Sums in plain words: one round, eight rounds, a byte, some bytes. No program in sight. No condition. -/
namespace Go.Proofs.Ytbfipgeoecbpaaa
open Go.RowKit
/-- One round. -/
def cr (x : Nat) : Nat := (x / 2) ^^^ (if x % 2 = 1 then 3988292384 else 0)
def crN : Nat → Nat → Nat
  | 0, x => x
  | n + 1, x => crN n (cr x)
/-- A byte turns a sum. -/
def crS (x b : Nat) : Nat := crN 8 (x ^^^ b)
def crcL (x : Nat) (l : List UInt8) : Nat := l.foldl (fun x b => crS x b.toNat) x
/-- The sum of some bytes. -/
def crcV (l : List UInt8) : Nat := crcL 4294967295 l ^^^ 4294967295
theorem xor_half (a b : Nat) : (a ^^^ b) / 2 = a / 2 ^^^ b / 2 := by
  have h := Nat.shiftRight_xor_distrib (a := a) (b := b) (i := 1)
  simpa [Nat.shiftRight_eq_div_pow] using h
theorem xor_div (a b n : Nat) : (a ^^^ b) / 2 ^ n = a / 2 ^ n ^^^ b / 2 ^ n := by
  have h := Nat.shiftRight_xor_distrib (a := a) (b := b) (i := n)
  simpa [Nat.shiftRight_eq_div_pow] using h
theorem xor_odd (a b : Nat) : (a ^^^ b) % 2 = (a % 2 + b % 2) % 2 := by
  have h := Nat.xor_mod_two_pow (a := a) (b := b) (n := 1)
  simp only [Nat.pow_one] at h
  rw [h]
  have ha : a % 2 = 0 ∨ a % 2 = 1 := by omega
  have hb : b % 2 = 0 ∨ b % 2 = 1 := by omega
  rcases ha with ha | ha <;> rcases hb with hb | hb <;> rw [ha, hb] <;> rfl
theorem cr_xor (a b : Nat) : cr (a ^^^ b) = cr a ^^^ cr b := by
  unfold cr
  rw [xor_half, xor_odd]
  have ha : a % 2 = 0 ∨ a % 2 = 1 := by omega
  have hb : b % 2 = 0 ∨ b % 2 = 1 := by omega
  generalize a / 2 = p
  generalize b / 2 = q
  generalize 3988292384 = P
  rcases ha with ha | ha <;> rcases hb with hb | hb <;> rw [ha, hb]
  · simp
  · simp [Nat.xor_assoc]
  · simp only [Nat.reduceAdd, Nat.reduceMod, if_true, Nat.zero_ne_one, if_false, Nat.xor_zero]
    rw [Nat.xor_assoc, Nat.xor_assoc, Nat.xor_comm P q]
  · simp only [Nat.reduceAdd, Nat.reduceMod, if_true, Nat.zero_ne_one, if_false, Nat.xor_zero]
    rw [Nat.xor_assoc p P, ← Nat.xor_assoc P q P, Nat.xor_comm P q, Nat.xor_assoc q P P, Nat.xor_self, Nat.xor_zero]
theorem crN_xor : ∀ (n a b : Nat), crN n (a ^^^ b) = crN n a ^^^ crN n b
  | 0, _, _ => rfl
  | n + 1, a, b => by rw [crN, cr_xor, crN_xor n, ← crN, ← crN]
theorem crN_split : ∀ (n x : Nat), crN n x = x / 2 ^ n ^^^ crN n (x % 2 ^ n)
  | 0, x => by simp [crN, Nat.mod_one]
  | n + 1, x => by
    rw [crN, crN]
    unfold cr
    rw [crN_xor, crN_xor, crN_split n (x / 2)]
    have e1 : x % 2 ^ (n + 1) / 2 = x / 2 % 2 ^ n := by
      rw [Nat.pow_succ, Nat.mul_comm, Nat.mod_mul_right_div_self]
    have e2 : x % 2 ^ (n + 1) % 2 = x % 2 := by
      rw [Nat.pow_succ, Nat.mul_comm, Nat.mod_mul_right_mod]
    have e3 : x / 2 / 2 ^ n = x / 2 ^ (n + 1) := by
      rw [Nat.div_div_eq_div_mul, Nat.pow_succ, Nat.mul_comm]
    rw [e1, e2, e3, Nat.xor_assoc]
theorem crS_byte (x b : Nat) (hb : b < 256) : x / 256 ^^^ crN 8 (x % 256 ^^^ b) = crS x b := by
  unfold crS
  rw [crN_split 8 (x ^^^ b), xor_div, Nat.xor_mod_two_pow]
  rw [show (2 : Nat) ^ 8 = 256 from rfl, Nat.div_eq_of_lt hb, Nat.xor_zero, Nat.mod_eq_of_lt hb]
theorem cr_lt {x : Nat} (h : x < 4294967296) : cr x < 4294967296 := by
  unfold cr
  refine Nat.xor_lt_two_pow (n := 32) (by omega) ?_
  split <;> omega
theorem crN_lt : ∀ (n : Nat) {x : Nat}, x < 4294967296 → crN n x < 4294967296
  | 0, _, h => h
  | n + 1, _, h => crN_lt n (cr_lt h)
theorem crS_lt {x b : Nat} (h : x < 4294967296) (hb : b < 256) : crS x b < 4294967296 :=
  crN_lt 8 (Nat.xor_lt_two_pow (n := 32) h (by omega))
theorem crcL_lt : ∀ (l : List UInt8) {x : Nat}, x < 4294967296 → crcL x l < 4294967296
  | [], _, h => h
  | b :: l, _, h => crcL_lt l (crS_lt h b.toNat_lt)
theorem crcV_lt (l : List UInt8) : crcV l < 4294967296 := Nat.xor_lt_two_pow (n := 32) (crcL_lt l (by decide)) (by decide)
theorem crcL_snoc (x : Nat) (l : List UInt8) (b : UInt8) : crcL x (l ++ [b]) = crS (crcL x l) b.toNat := by simp [crcL]
theorem crN_snoc : ∀ (n x : Nat), crN (n + 1) x = cr (crN n x)
  | 0, _ => rfl
  | n + 1, x => by rw [crN, crN_snoc n (cr x), ← crN]
theorem cr_bits (x : Nat) (h : x < 4294967296) : bits .xor .u32 ((x : Int) / 2) (bits .and .u32 3988292384 (IntKind.u32.wrap (-(bits .and .u32 (x : Int) 1)))) = ((cr x : Nat) : Int) := by
  have e1 : bits .and .u32 (x : Int) 1 = ((x % 2 : Nat) : Int) := by
    have := u32_and_nat x 1 h (by decide)
    rw [show ((1 : Nat) : Int) = 1 from rfl] at this
    rw [this, Nat.and_one_is_mod]
  rw [e1]
  have hx : x % 2 = 0 ∨ x % 2 = 1 := by omega
  have e2 : ((x : Int) / 2) = ((x / 2 : Nat) : Int) := by omega
  rw [e2]
  unfold cr
  rcases hx with hx | hx
  · rw [hx, if_neg (by decide)]
    have e3 : bits .and .u32 3988292384 (IntKind.u32.wrap (-((0 : Nat) : Int))) = ((0 : Nat) : Int) := by decide +kernel
    rw [e3, u32_xor_nat _ _ (by omega) (by decide)]
  · rw [hx, if_pos rfl]
    have e3 : bits .and .u32 3988292384 (IntKind.u32.wrap (-((1 : Nat) : Int))) = ((3988292384 : Nat) : Int) := by decide +kernel
    rw [e3, u32_xor_nat _ _ (by omega) (by decide)]
theorem crs_bits (x j b : Nat) (h : x < 4294967296) (hj : j = x % 256 ^^^ b) (hb : b < 256) : bits .xor .u32 ((x : Int) / 256) ((crN 8 j : Nat) : Int) = ((crS x b : Nat) : Int) := by
  have hj2 : j < 4294967296 := by rw [hj]; exact Nat.xor_lt_two_pow (n := 32) (by omega) (by omega)
  rw [show ((x : Int) / 256) = ((x / 256 : Nat) : Int) by omega, u32_xor_nat _ _ (by omega) (crN_lt 8 hj2), hj, crS_byte x b hb]
end Go.Proofs.Ytbfipgeoecbpaaa
/- Events in plain words: which numbers a kind has, which events can be. No program in sight. No condition. -/
namespace Go.Proofs.Ytbfipgeoecbpaaa
open Go.RowKit
/-- An event. -/
structure Ev where
  k : Int
  cy : Nat
  ct : Nat
  a : Nat
  b : Nat
  v : Nat
deriving DecidableEq
instance : Inhabited Ev := ⟨⟨0, 0, 0, 0, 0, 0⟩⟩
/-- Its numbers are such as the machine has. -/
structure Ev.Wf (e : Ev) : Prop where
  k0 : -9223372036854775808 ≤ e.k
  k1 : e.k ≤ 9223372036854775807
  cy : e.cy < 18446744073709551616
  ct : e.ct < 18446744073709551616
  a : e.a < 4294967296
  b : e.b < 4294967296
  v : e.v < 4294967296
def Ev.f (e : Ev) : Nat → Value
  | 0 => .int .i64 e.k
  | 1 => .int .u64 e.cy
  | 2 => .int .u64 e.ct
  | 3 => .int .u32 e.a
  | 4 => .int .u32 e.b
  | _ => .int .u32 e.v
def Ev.cells (e : Ev) : List Value := [.int .i64 e.k, .int .u64 e.cy, .int .u64 e.ct, .int .u32 e.a, .int .u32 e.b, .int .u32 e.v]
/-- The ranges of a kind's numbers, by their numbers. -/
def sh (k : Int) : Nat × Nat × Nat :=
  if k = 1 then (3, 2, 0) else if k = 2 ∨ k = 20 then (3, 6, 1) else if k = 3 ∨ k = 4 then (3, 0, 0) else if k = 5 then (8, 8, 0) else if k = 6 ∨ k = 8 then (5, 0, 1) else if k = 7 then (5, 0, 12)
  else if k = 9 then (5, 9, 0) else if k = 10 then (5, 2, 0) else if k = 11 then (5, 10, 0) else if k = 12 ∨ k = 13 then (5, 4, 0) else if k = 14 then (7, 4, 11) else if k = 15 then (5, 4, 11)
  else if k = 16 ∨ k = 17 ∨ k = 19 then (6, 4, 1) else if k = 18 then (4, 0, 0) else if k = 21 then (6, 13, 0) else if k = 22 then (5, 0, 0) else if k = 23 then (7, 13, 14) else (0, 0, 0)
/-- Is a number in its range? -/
def wth (n o : Nat) : Bool :=
  match o with
  | 1 => true
  | 2 => decide (n ≤ 1)
  | 3 => decide (n ≤ 15)
  | 4 => decide (n ≤ 31)
  | 5 => decide (n ≤ 63)
  | 6 => decide (n ≤ 79)
  | 7 => decide (n ≤ 80)
  | 8 => decide (n ≤ 63 ∨ n = 255)
  | 9 => decide (n = 0 ∨ (32 ≤ n ∧ n ≤ 159))
  | 10 => decide (n ≤ 31)
  | 11 => decide (n ≤ 255)
  | 12 => decide (1 ≤ n ∧ n ≤ 255)
  | 13 => decide (n ≤ 16)
  | 14 => decide (n ≤ 38)
  | _ => decide (n = 0)
def isK (k : Int) : Bool := decide (1 ≤ k ∧ k ≤ 24)
/-- Can it be? -/
def Ev.okB (e : Ev) : Bool := wth e.a (sh e.k).1 && (wth e.b (sh e.k).2.1 && (wth e.v (sh e.k).2.2 && !(decide (e.k = 5) && decide (e.a = e.b))))
def Ev.chk (e : Ev) : Int := if isK e.k = true then (if e.okB = true then 0 else 5) else 1
def hasA (k : Int) : Bool := (sh k).1 != 0
def hasB (k : Int) : Bool := (sh k).2.1 != 0
def hasV (k : Int) : Bool := (sh k).2.2 != 0
theorem k_cases {k : Int} (h0 : 1 ≤ k) (h1 : k ≤ 24) : k = 1 ∨ k = 2 ∨ k = 3 ∨ k = 4 ∨ k = 5 ∨ k = 6 ∨ k = 7 ∨ k = 8 ∨ k = 9 ∨ k = 10 ∨ k = 11 ∨ k = 12 ∨ k = 13 ∨ k = 14 ∨ k = 15 ∨ k = 16 ∨ k = 17 ∨ k = 18 ∨ k = 19 ∨ k = 20 ∨ k = 21 ∨ k = 22 ∨ k = 23 ∨ k = 24 := by omega
theorem sh_no {k : Int} (h : k < 1 ∨ 23 < k) : sh k = (0, 0, 0) := by
  unfold sh
  rw [if_neg (by omega), if_neg (by omega), if_neg (by omega), if_neg (by omega), if_neg (by omega), if_neg (by omega), if_neg (by omega), if_neg (by omega), if_neg (by omega), if_neg (by omega), if_neg (by omega), if_neg (by omega), if_neg (by omega), if_neg (by omega), if_neg (by omega), if_neg (by omega), if_neg (by omega)]
theorem sh_le (k : Int) : (sh k).1 ≤ 14 ∧ (sh k).2.1 ≤ 14 ∧ (sh k).2.2 ≤ 14 := by
  by_cases h : 1 ≤ k ∧ k ≤ 24
  · rcases k_cases h.1 h.2 with rfl | rfl | rfl | rfl | rfl | rfl | rfl | rfl | rfl | rfl | rfl | rfl | rfl | rfl | rfl | rfl | rfl | rfl | rfl | rfl | rfl | rfl | rfl | rfl <;> decide
  · rw [sh_no (by omega)]; decide
theorem o_cases {o : Nat} (h : o ≤ 14) : o = 0 ∨ o = 1 ∨ o = 2 ∨ o = 3 ∨ o = 4 ∨ o = 5 ∨ o = 6 ∨ o = 7 ∨ o = 8 ∨ o = 9 ∨ o = 10 ∨ o = 11 ∨ o = 12 ∨ o = 13 ∨ o = 14 := by omega
theorem chk_ok {e : Ev} (h : e.chk = 0) : isK e.k = true ∧ e.okB = true := by
  unfold Ev.chk at h
  split at h
  · split at h
    · exact ⟨by assumption, by assumption⟩
    · cases h
  · cases h
theorem leaf_k {k n : Int} {G : Prop} (h : (k == n) = true) (g : k = n → G) : G := g (by simpa using h)
theorem leaf_n {k n : Int} {G : Prop} (h : (k == n) = false) (g : k ≠ n → G) : G := g (by simpa using h)
theorem eqb_f {k n : Int} (h : k ≠ n) : (k == n) = false := by simpa using h
theorem eqb_t {k n : Int} (h : k = n) : (k == n) = true := by simpa using h
def Ev.val (e : Ev) : Value := .agg #[.int .i64 e.k, .int .u64 e.cy, .int .u64 e.ct, .int .u32 e.a, .int .u32 e.b, .int .u32 e.v]
end Go.Proofs.Ytbfipgeoecbpaaa
/- The bytes of events in plain words. No program in sight. No condition. -/
namespace Go.Proofs.Ytbfipgeoecbpaaa
open Go.RowKit
/-- From one stamp to the next: the count's step, the drift; can it be told? -/
def Stp (b e : Ev) : Nat × Int × Bool :=
  if e.ct < b.ct ∨ e.cy < b.cy then (0, 0, false)
  else if 4294967295 < e.ct - b.ct ∨ (e.ct - b.ct < e.cy - b.cy ∧ 2147483648 ≤ e.cy - b.cy - (e.ct - b.ct)) ∨ (e.cy - b.cy < e.ct - b.ct ∧ 2147483648 < e.ct - b.ct - (e.cy - b.cy)) then (0, 0, false)
  else (e.ct - b.ct, ((e.cy - b.cy : Nat) : Int) - ((e.ct - b.ct : Nat) : Int), true)
theorem stp_no {b e : Ev} (h : (Stp b e).2.2 = false) : Stp b e = (0, 0, false) := by
  unfold Stp at *
  split at h
  · rw [if_pos (by assumption)]
  · rw [if_neg (by assumption)]
    split at h
    · rw [if_pos (by assumption)]
    · cases h
theorem stp_yes {b e : Ev} (h : (Stp b e).2.2 = true) : b.ct ≤ e.ct ∧ b.cy ≤ e.cy ∧ e.ct - b.ct ≤ 4294967295 ∧ (Stp b e).1 = e.ct - b.ct ∧ (Stp b e).2.1 = ((e.cy - b.cy : Nat) : Int) - ((e.ct - b.ct : Nat) : Int) ∧ -2147483648 ≤ (Stp b e).2.1 ∧ (Stp b e).2.1 < 2147483648 := by
  unfold Stp at *
  split at h
  · cases h
  · split at h
    · cases h
    · rename_i h1 h2
      rw [if_neg h1, if_neg h2]
      obtain ⟨h3, h4⟩ : b.ct ≤ e.ct ∧ b.cy ≤ e.cy := by omega
      clear h1 h
      generalize e.ct - b.ct = s at h2 ⊢
      generalize e.cy - b.cy = g at h2 ⊢
      refine ⟨h3, h4, by omega, rfl, rfl, ?_, ?_⟩
      · show (-2147483648 : Int) ≤ (g : Int) - (s : Int)
        omega
      · show (g : Int) - (s : Int) < 2147483648
        omega
/-- An event's bytes by its steps. -/
def one (e : Ev) (s : Nat) (d : Int) : List UInt8 :=
  [UInt8.ofNat e.k.toNat] ++ leb 10 s ++ leb 10 (foldV d) ++ (if hasA e.k = true then leb 10 e.a else []) ++ (if hasB e.k = true then leb 10 e.b else []) ++ (if hasV e.k = true then leb 10 e.v else [])
/-- What is wrong with an event behind another one; its bytes. -/
def evErr (b e : Ev) : Int := if e.chk = 0 then (if (Stp b e).2.2 = true then 0 else 5) else 3
def evBytes (b e : Ev) : List UInt8 := one e (Stp b e).1 (Stp b e).2.1
/-- The bytes of the first n events, one behind the other; the first error among them. -/
def prnC (z : Nat → Ev) : Nat → List UInt8
  | 0 => []
  | n + 1 => prnC z n ++ evBytes (z (n - 1)) (z n)
def prnE (z : Nat → Ev) : Nat → Int
  | 0 => 0
  | n + 1 => if prnE z n = 0 then evErr (z (n - 1)) (z n) else prnE z n
/-- What Print answers. -/
def prnS (z : Nat → Ev) (n : Nat) : List UInt8 := if prnE z n = 0 then prnC z n else []
theorem prnE_mono (z : Nat → Ev) {i : Nat} (hi : prnE z i ≠ 0) : ∀ {n : Nat}, i ≤ n → prnE z n = prnE z i
  | 0, h => by obtain rfl : i = 0 := by omega
               rfl
  | n + 1, h => by
    rcases Nat.lt_or_ge n i with h1 | h1
    · obtain rfl : i = n + 1 := by omega
      rfl
    · rw [prnE, prnE_mono z hi h1, if_neg hi]
theorem one_len (e : Ev) (s : Nat) (d : Int) : 3 ≤ (one e s d).length ∧ (one e s d).length ≤ 51 := by
  have h1 := leb_len_le 10 s
  have h2 := leb_len_le 10 (foldV d)
  have h3 := leb_len_le 10 e.a
  have h4 := leb_len_le 10 e.b
  have h5 := leb_len_le 10 e.v
  have h6 : 1 ≤ (leb 10 s).length := leb_pos 9 s
  have h7 : 1 ≤ (leb 10 (foldV d)).length := leb_pos 9 (foldV d)
  unfold one
  simp only [List.length_append, List.length_cons, List.length_nil]
  refine ⟨by omega, ?_⟩
  split <;> split <;> split <;> simp <;> omega
theorem prnC_len (z : Nat → Ev) : ∀ n, (prnC z n).length ≤ 51 * n
  | 0 => Nat.le_refl _
  | n + 1 => by
    have := prnC_len z n
    have := (one_len (z n) (Stp (z (n - 1)) (z n)).1 (Stp (z (n - 1)) (z n)).2.1).2
    rw [prnC, List.length_append]
    unfold evBytes
    omega
end Go.Proofs.Ytbfipgeoecbpaaa
