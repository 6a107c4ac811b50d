/- More plain lemmas on numbers' bytes: what is put is got. -/
import Derived.Test.YthdenjokedmcfaaNum
namespace Go.Proofs.Ythdenjokedmcfaa
open Go.RowKit
theorem at_drop {s : ByteArray} {i : Nat} {b : UInt8} {r : List UInt8} (h : s.data.toList.drop i = b :: r) : ∃ h' : i < s.size, s[i] = b := by
  have hlen : s.data.toList.length = s.size := by simp
  have h1 : i < s.data.toList.length := by
    rcases Nat.lt_or_ge i s.data.toList.length with h2 | h2
    · exact h2
    · rw [List.drop_eq_nil_of_le h2] at h; cases h
  refine ⟨by omega, ?_⟩
  have h3 := List.drop_eq_getElem_cons h1
  rw [h] at h3
  have h4 := (List.cons.inj h3).1
  rw [h4]
  simp
  rfl
theorem drop_step {l : List UInt8} {i : Nat} {b : UInt8} {r : List UInt8} (h : l.drop i = b :: r) : l.drop (i + 1) = r := by
  rw [← List.tail_drop, h]; rfl
/-- What was put is got. -/
theorem lgo_back (s : ByteArray) (p : Nat) : ∀ (f n k acc : Nat) (post : List UInt8), f + k = 9 → n < 128 ^ (f + 1) → n * 128 ^ k < U64 → (0 < k → 0 < n) →
    s.data.toList.drop (p + k) = leb (f + 1) n ++ post → lgo s p (f + 1) k acc = (acc + n * 128 ^ k, 0, p + k + (leb (f + 1) n).length) := by
  intro f
  induction f with
  | zero =>
    intro n k acc post hfk hn hu hk hd
    have h9 : k = 9 := by omega
    have hn1 : n < 128 := by simpa using hn
    rw [leb_last 0 n hn1] at hd ⊢
    obtain ⟨h', hb⟩ := at_drop (by simpa using hd)
    have hc : s[p + k].toNat = n := by rw [hb]; exact byte_lo n hn1
    have hle : n ≤ 1 := by subst h9; unfold U64 at hu; omega
    have := hk (by omega)
    rw [lgo, dif_pos h', if_neg (by rw [hc]; omega), if_pos (by rw [hc]; exact hn1), hc]
    simp
  | succ f ih =>
    intro n k acc post hfk hn hu hk hd
    by_cases hn1 : n < 128
    · rw [leb_last _ n hn1] at hd ⊢
      obtain ⟨h', hb⟩ := at_drop (by simpa using hd)
      have hc : s[p + k].toNat = n := by rw [hb]; exact byte_lo n hn1
      rw [lgo, dif_pos h', if_neg (by rw [hc]; omega), if_pos (by rw [hc]; exact hn1), hc]
      simp
    · rw [leb_more _ n (by omega)] at hd ⊢
      obtain ⟨h', hb⟩ := at_drop (by simpa only [List.cons_append] using hd)
      have hc : s[p + k].toNat = n % 128 + 128 := by rw [hb]; exact byte_hi n
      have hd' := drop_step (by simpa only [List.cons_append] using hd)
      have e1 : n / 128 * 128 ^ (k + 1) + n % 128 * 128 ^ k = n * 128 ^ k := by
        rw [Nat.pow_succ, Nat.mul_comm (128 ^ k) 128, ← Nat.mul_assoc, ← Nat.add_mul]
        congr 1
        omega
      have := ih (n / 128) (k + 1) (acc + n % 128 * 128 ^ k) post (by omega) (pow_succ128 _ _ hn) (by omega) (fun _ => by omega) (by rw [← hd']; congr 1)
      rw [lgo, dif_pos h', if_neg (by rw [hc]; omega), if_neg (by rw [hc]; omega), hc, show (n % 128 + 128) % 128 = n % 128 from by omega, this]
      simp only [List.length_cons, Prod.mk.injEq, true_and]
      omega
theorem lget_back (s : ByteArray) (n : Nat) (pre post : List UInt8) (hn : n < U64) (hs : s.data.toList = pre ++ leb 10 n ++ post) : lget s pre.length = (n, 0, pre.length + (leb 10 n).length) := by
  have := lgo_back s pre.length 9 n 0 0 post rfl (u64_pow n hn) (by simpa using hn) (fun h => absurd h (by omega)) (by rw [hs]; simp)
  simpa [lget] using this
end Go.Proofs.Ythdenjokedmcfaa
