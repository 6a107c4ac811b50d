/- What a Put makes of a ring of which none is begun, by either policy; the contract for the ring that loses the newest. No condition but those that each names. -/
import Derived.Test.YtbfipgeoecbpaaaRgE
namespace Go.Proofs.Ytbfipgeoecbpaaa
open Go.RowKit
set_option linter.unusedVariables false
set_option linter.unusedSimpArgs false
/-- What a Put makes of a ring of which none is begun. -/
def PutRel (cap : Nat) (pol : Int) (L : List (List UInt8)) (lo : Nat) (s : List UInt8) (L' : List (List UInt8)) (lo' : Nat) : Prop :=
  (pol = 0 ∧ L' = putL cap L s ∧ lo' = lo + putN cap L s) ∨ (pol = 1 ∧ ∃ d, d ≤ L.length ∧ L' = L.drop d ++ [s] ∧ lo' = lo + d)
theorem PutRel.cnt {cap : Nat} {pol : Int} {L : List (List UInt8)} {lo : Nat} {s : List UInt8} {L' : List (List UInt8)} {lo' : Nat} (h : PutRel cap pol L lo s L' lo') (h1 : 1 ≤ s.length) (h2 : s.length ≤ 179) : lo' + L'.length = lo + L.length + 1 := by
  rcases h with ⟨_, rfl, rfl⟩ | ⟨_, d, hd, rfl, rfl⟩
  · have hE : putE cap L s = if cap < L.flatten.length + s.length then 7 else 0 := if_neg (by omega)
    unfold putL putN
    rw [hE]
    by_cases hc : cap < L.flatten.length + s.length
    · rw [if_pos hc, if_pos rfl, if_neg (by decide)]; omega
    · rw [if_neg hc, if_neg (by decide), if_pos rfl, List.length_append]; simp; omega
  · rw [List.length_append, List.length_drop]; simp; omega
theorem PutRel.room {cap : Nat} {L : List (List UInt8)} {lo : Nat} {s : List UInt8} {L' : List (List UInt8)} {lo' : Nat} (h : PutRel cap 0 L lo s L' lo') (h1 : 1 ≤ s.length) (h2 : s.length ≤ 179) (h3 : L.flatten.length + s.length ≤ cap) : L' = L ++ [s] ∧ lo' = lo := by
  rcases h with ⟨_, rfl, rfl⟩ | ⟨h, _⟩
  · have hE : putE cap L s = 0 := by unfold putE; rw [if_neg (by omega), if_neg (by omega)]
    unfold putL putN
    rw [hE, if_pos rfl, if_neg (by decide)]
    exact ⟨rfl, rfl⟩
  · exact absurd h (by decide)
/-- Put, in a ring of that policy. -/
def PutsAs (pol : Int) : Prop := ∀ (w : World) (b cap : Nat) (L : List (List UInt8)) (lo : Nat) (F : Nat → Prop), RingL w b cap pol L false lo F → ∀ s : ByteArray, 1 ≤ s.size → s.size ≤ 179 → lo + L.length ≤ 100000000000 →
  Calls Try.prog 40 #[.pointer (some ⟨b, 0, none⟩), .string s] w fun e w' => (∃ k : Int, e = .returned (.int .i64 k)) ∧ (∃ L' lo', PutRel cap pol L lo s.data.toList L' lo' ∧ RingL w' b cap pol L' false lo' (grow F w w')) ∧ Only F w w'
theorem putsAs0 : PutsAs 0 := by
  intro w b cap L lo F h s h1 h2 hlo
  refine (qput_any h s (by omega)).mono ?_
  rintro e w' ⟨rfl, hr, on⟩
  exact ⟨⟨_, rfl⟩, ⟨_, _, .inl ⟨rfl, rfl, rfl⟩, hr⟩, on⟩
end Go.Proofs.Ytbfipgeoecbpaaa
