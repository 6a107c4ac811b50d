/- Plain lemmas on numbers by sevens (layer 4): no program in sight. -/
import Derived.Test.YthdenjokedmcfaaNumB
namespace Go.Proofs.Ythdenjokedmcfaa
open Go.RowKit

/-- A number as so many bytes. -/
def sep : Nat → Nat → List UInt8
  | 0, _ => []
  | c + 1, n => UInt8.ofNat (n % 128) :: sep c (n / 128)
theorem sep_len : ∀ c n, (sep c n).length = c
  | 0, _ => rfl
  | c + 1, n => by simp [sep, sep_len c]
/-- Does it fit? -/
def fitsB (n : Nat) (count : Int) : Bool := decide (1 ≤ count) && (decide (count ≤ 10) && decide (n < 128 ^ count.toNat))
theorem bl_fits (n c : Nat) (hn : n < U64) (hc : c ≤ 10) : Lib.bitLen n ≤ 7 * c ↔ n < 128 ^ c := by
  rw [show (128 : Nat) = 2 ^ 7 from rfl, ← Nat.pow_mul]
  constructor
  · intro h
    by_cases h0 : n = 0
    · subst h0; exact Nat.two_pow_pos _
    · have := bl_bounds n hn h0
      exact Nat.lt_of_lt_of_le this.2.2 (Nat.pow_le_pow_right (by omega) h)
  · intro h
    by_cases hk : 7 * c ≤ 64
    · exact bl_le n _ hk h
    · have := bl_le n 64 (by omega) (by unfold U64 at hn; omega)
      omega
/-- What Put answers: the error, the bytes. -/
def sput (n : Nat) (count : Int) : Nat × List UInt8 :=
  if count < 1 ∨ 10 < count then (1, []) else if n < 128 ^ count.toNat then (0, sep count.toNat n) else (5, [])
/-- What Get answers: the number, the error, the place then. -/
def sgo (s : ByteArray) (p : Nat) : Nat → Nat → Nat → Nat × Nat × Nat
  | 0, k, acc => (acc, 0, p + k)
  | f + 1, k, acc =>
    if h : p + k < s.size then
      if 127 < s[p + k].toNat ∨ (k = 9 ∧ 1 < s[p + k].toNat) then (0, 3, p)
      else sgo s p f (k + 1) (acc + s[p + k].toNat * 128 ^ k)
    else (0, 2, p)
def sget (s : ByteArray) (p : Nat) (count : Int) : Nat × Nat × Nat := if count < 1 ∨ 10 < count then (0, 1, p) else sgo s p count.toNat 0 0
section
variable {s : ByteArray} {p k acc f : Nat}
theorem sgo_end (h : ¬ p + k < s.size) : sgo s p (f + 1) k acc = (0, 2, p) := by rw [sgo, dif_neg h]
theorem sgo_bad (h : p + k < s.size) {c : Nat} (hc : c = s[p + k].toNat) (hb : 127 < c ∨ (k = 9 ∧ 1 < c)) : sgo s p (f + 1) k acc = (0, 3, p) := by
  subst hc; rw [sgo, dif_pos h, if_pos hb]
theorem sgo_go (h : p + k < s.size) {c : Nat} (hc : c = s[p + k].toNat) (hb : ¬ (127 < c ∨ (k = 9 ∧ 1 < c))) : sgo s p (f + 1) k acc = sgo s p f (k + 1) (acc + c * 128 ^ k) := by
  subst hc; rw [sgo, dif_pos h, if_neg hb]
end
theorem sgo_next (s : ByteArray) (p : Nat) : ∀ (f k acc : Nat), p ≤ s.size → p + k ≤ s.size → (sgo s p f k acc).2.2 ≤ s.size ∧ ((sgo s p f k acc).2.1 ≠ 0 → (sgo s p f k acc).1 = 0 ∧ (sgo s p f k acc).2.2 = p) ∧ ((sgo s p f k acc).2.1 = 0 → (sgo s p f k acc).2.2 = p + k + f)
  | 0, k, acc, _, hk => ⟨hk, fun h => absurd rfl h, fun _ => rfl⟩
  | f + 1, k, acc, hp, hk => by
    rw [sgo]
    split
    · split
      · exact ⟨hp, fun _ => ⟨rfl, rfl⟩, fun h => by cases h⟩
      · have := sgo_next s p f (k + 1) (acc + s[p + k].toNat * 128 ^ k) hp (by omega)
        exact ⟨this.1, this.2.1, fun h => by rw [this.2.2 h]; omega⟩
    · exact ⟨hp, fun _ => ⟨rfl, rfl⟩, fun h => by cases h⟩
theorem sget_next (s : ByteArray) (p : Nat) (count : Int) (hp : p ≤ s.size) : (sget s p count).2.2 ≤ s.size ∧ ((sget s p count).2.1 ≠ 0 → (sget s p count).1 = 0 ∧ (sget s p count).2.2 = p) := by
  unfold sget
  split
  · exact ⟨hp, fun _ => ⟨rfl, rfl⟩⟩
  · have := sgo_next s p count.toNat 0 0 hp (by omega)
    exact ⟨this.1, this.2.1⟩
theorem sacc_fit (acc c k : Nat) (hk : k < 10) (ha : acc < 128 ^ k) (hb : ¬ (127 < c ∨ (k = 9 ∧ 1 < c))) : acc + c * 128 ^ k < U64 ∧ acc + c * 128 ^ k < 128 ^ (k + 1) := by
  have h := acc_fit acc c k hk ha (fun h => hb (.inr ⟨h.2, h.1⟩))
  rw [Nat.mod_eq_of_lt (by omega)] at h
  exact ⟨h.1, h.2.1⟩
theorem sgo_lt (s : ByteArray) (p : Nat) : ∀ (f k acc : Nat), k + f ≤ 10 → acc < 128 ^ k → acc < U64 → (sgo s p f k acc).1 < U64
  | 0, k, acc, _, _, h => h
  | f + 1, k, acc, hk, ha, h => by
    rw [sgo]
    split
    · split
      · unfold U64; simp
      · rename_i hb
        have := sacc_fit acc _ k (by omega) ha hb
        exact sgo_lt s p f _ _ (by omega) this.2 this.1
    · unfold U64; simp
theorem sget_lt (s : ByteArray) (p : Nat) (count : Int) : (sget s p count).1 < U64 := by
  unfold sget
  split
  · unfold U64; simp
  · exact sgo_lt s p _ 0 0 (by omega) (by simp) (by unfold U64; omega)
theorem sacc_bits (acc c k : Nat) (hk : k < 10) (ha : acc < 128 ^ k) (hb : ¬ (127 < c ∨ (k = 9 ∧ 1 < c))) :
    bits BinOp.or IntKind.u64 (acc : Int) (IntKind.u64.wrap ((c : Int) * 2 ^ (7 * k))) = ((acc + c * 128 ^ k : Nat) : Int) := by
  obtain ⟨h1, h2⟩ := sacc_fit acc c k hk ha hb
  have e3 : (c : Int) * 2 ^ (7 * k) = ((c * 128 ^ k : Nat) : Int) := by
    rw [Int.natCast_mul, Int.natCast_pow, show ((128 : Nat) : Int) = 2 ^ 7 from rfl, ← Int.pow_mul]
  have e4 : IntKind.u64.wrap ((c * 128 ^ k : Nat) : Int) = ((c * 128 ^ k : Nat) : Int) := by
    rw [IntKind.wrap_u64]; unfold U64 at h1; omega
  unfold U64 at h1
  rw [e3, e4, u64_or_nat _ _ (by omega) (by omega)]
  congr 1
  rw [Nat.or_comm, show (128 : Nat) = 2 ^ 7 from rfl, ← Nat.pow_mul, ← Nat.shiftLeft_eq]
  rw [show (128 : Nat) = 2 ^ 7 from rfl, ← Nat.pow_mul] at ha
  rw [← Nat.shiftLeft_add_eq_or_of_lt ha, Nat.add_comm]
/-- What is put is got. -/
theorem sgo_back (s : ByteArray) (p : Nat) : ∀ (f n k acc : Nat) (post : List UInt8), f + k ≤ 10 → n < 128 ^ f → n * 128 ^ k < U64 → acc + n * 128 ^ k < U64 →
    s.data.toList.drop (p + k) = sep f n ++ post → sgo s p f k acc = (acc + n * 128 ^ k, 0, p + k + f) := by
  intro f
  induction f with
  | zero =>
    intro n k acc post _ hn _ _ _
    have : n = 0 := by simpa using hn
    subst this
    simp [sgo]
  | succ f ih =>
    intro n k acc post hfk hn hu ha hd
    obtain ⟨h', hb⟩ := at_drop (by simpa only [sep, List.cons_append] using hd)
    have hc : s[p + k].toNat = n % 128 := by rw [hb]; exact byte_lo _ (Nat.mod_lt _ (by omega))
    have hd' := drop_step (by simpa only [sep, List.cons_append] using hd)
    have e1 : n / 128 * 128 ^ (k + 1) + n % 128 * 128 ^ k = n * 128 ^ k := by
      rw [Nat.pow_succ, Nat.mul_comm (128 ^ k) 128, ← Nat.mul_assoc, ← Nat.add_mul]
      congr 1
      omega
    have h9 : k = 9 → n ≤ 1 := by intro h; subst h; unfold U64 at hu; omega
    have := ih (n / 128) (k + 1) (acc + n % 128 * 128 ^ k) post (by omega) (pow_succ128 _ _ hn) (by omega) (by omega) (by rw [← hd']; congr 1)
    rw [sgo_go h' hc.symm (by have := Nat.mod_lt n (show 128 > 0 by omega); have := Nat.mod_le n 128; omega), this]
    simp only [Prod.mk.injEq, true_and]
    omega
theorem sget_back (s : ByteArray) (n c : Nat) (pre post : List UInt8) (hc1 : 1 ≤ c) (hc : c ≤ 10) (hn : n < 128 ^ c) (hu : n < U64) (hs : s.data.toList = pre ++ sep c n ++ post) : sget s pre.length c = (n, 0, pre.length + c) := by
  have := sgo_back s pre.length c n 0 0 post (by omega) hn (by simpa using hu) (by simpa using hu) (by rw [hs]; simp)
  unfold sget
  rw [if_neg (by omega)]
  simpa using this
/-- Bytes that are got are put as they were. -/
theorem sgo_one (s : ByteArray) (p : Nat) : ∀ (f k acc n e nx : Nat), k + f ≤ 10 → acc < 128 ^ k → sgo s p f k acc = (n, e, nx) → e = 0 → n < 128 ^ (k + f) ∧ ∃ m, n = acc + m * 128 ^ k ∧ sep f m = (s.data.toList.drop (p + k)).take f := by
  intro f
  induction f with
  | zero =>
    intro k acc n e nx _ ha h he
    simp only [sgo, Prod.mk.injEq] at h
    obtain ⟨rfl, _, _⟩ := h
    exact ⟨by simpa using ha, 0, by simp, by simp [sep]⟩
  | succ f ih =>
    intro k acc n e nx hk ha h he
    rw [sgo] at h
    split at h
    · rename_i hlt
      split at h
      · simp only [Prod.mk.injEq] at h; omega
      · rename_i hb
        have hfit := sacc_fit acc _ k (by omega) ha hb
        obtain ⟨h1, m, h2, h3⟩ := ih (k + 1) _ n e nx (by omega) hfit.2 h he
        refine ⟨by rw [show k + (f + 1) = k + 1 + f from by omega]; exact h1, s[p + k].toNat + m * 128, ?_, ?_⟩
        · rw [h2, Nat.pow_succ, Nat.add_mul, Nat.mul_comm (128 ^ k) 128, ← Nat.mul_assoc]; omega
        · have hl : p + k < s.data.toList.length := by simpa using hlt
          have e1 : (s[p + k].toNat + m * 128) % 128 = s[p + k].toNat := by omega
          have e2 : (s[p + k].toNat + m * 128) / 128 = m := by omega
          rw [sep, e1, e2, h3, List.drop_eq_getElem_cons hl, List.take_succ_cons]
          have : s.data.toList[p + k] = s[p + k] := by simp; rfl
          rw [this]
          simp
          rfl
    · simp only [Prod.mk.injEq] at h; omega
theorem sep_inj (a b : Nat) : ∀ c, a < 128 ^ c → b < 128 ^ c → sep c a = sep c b → a = b := by
  intro c
  induction c generalizing a b with
  | zero => intro h1 h2 _; simp at h1 h2; omega
  | succ c ih =>
    intro h1 h2 h
    simp only [sep, List.cons.injEq] at h
    have e1 := byte_lo (a % 128) (Nat.mod_lt _ (by omega))
    have e2 := byte_lo (b % 128) (Nat.mod_lt _ (by omega))
    rw [h.1, e2] at e1
    have := ih (a / 128) (b / 128) (pow_succ128 _ _ h1) (pow_succ128 _ _ h2) h.2
    omega
theorem sep_low : ∀ c n, ∀ x ∈ sep c n, x.toNat < 128
  | 0, _, x, h => by cases h
  | c + 1, n, x, h => by
    simp only [sep, List.mem_cons] at h
    rcases h with rfl | h
    · rw [byte_lo _ (Nat.mod_lt _ (by omega))]; exact Nat.mod_lt _ (by omega)
    · exact sep_low c (n / 128) x h
/-- The value of k bytes, by Horner's way. -/
def acc8 (s : ByteArray) (p : Nat) : Nat → Nat
  | 0 => 0
  | k + 1 => acc8 s p k + bt s (p + k) * 128 ^ k
theorem horner8 (s : ByteArray) (p k j n : Nat) (h : n * 128 ^ (j + 1) + acc8 s p (j + 1) = acc8 s p k) : (n * 128 + bt s (p + j)) * 128 ^ j + acc8 s p j = acc8 s p k := by
  rw [← h, acc8, Nat.pow_succ, Nat.add_mul, Nat.mul_assoc n 128, Nat.mul_comm 128 (128 ^ j)]
  omega
theorem horner8_lt (s : ByteArray) (p k j n : Nat) (h : n * 128 ^ j + acc8 s p j = acc8 s p k) : n ≤ acc8 s p k := by
  have : n * 1 ≤ n * 128 ^ j := Nat.mul_le_mul_left _ (Nat.one_le_pow _ _ (by omega))
  omega
end Go.Proofs.Ythdenjokedmcfaa
