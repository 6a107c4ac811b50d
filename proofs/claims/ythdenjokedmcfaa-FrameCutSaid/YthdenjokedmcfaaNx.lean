/- What one event's bytes are, in plain words. No program in sight. No condition. -/
import Derived.Test.YthdenjokedmcfaaCoil
import Derived.Test.YthdenjokedmcfaaLeb
namespace Go.Proofs.Ythdenjokedmcfaa
open Go.RowKit
def M32 : Nat := 4294967295
def opt (h : Bool) (s : ByteArray) (p : Nat) : Nat × Nat × Nat := if h = true then lmost s p M32 else (0, 0, p)
def n1 (s : ByteArray) (p : Nat) : Nat × Nat × Nat := lmost s (p + 1) M32
def n2 (s : ByteArray) (p : Nat) : Nat × Nat × Nat := lmost s (n1 s p).2.2 M32
def nA (s : ByteArray) (p : Nat) : Nat × Nat × Nat := opt (hasA (bt s p)) s (n2 s p).2.2
def nB (s : ByteArray) (p : Nat) : Nat × Nat × Nat := opt (hasB (bt s p)) s (nA s p).2.2
def nV (s : ByteArray) (p : Nat) : Nat × Nat × Nat := opt (hasV (bt s p)) s (nB s p).2.2
/-- The first error of an event's numbers. -/
def nxE (s : ByteArray) (p : Nat) : Nat :=
  if isK (bt s p) = true then (if (n1 s p).2.1 ≠ 0 then (n1 s p).2.1 else if (n2 s p).2.1 ≠ 0 then (n2 s p).2.1 else if (nA s p).2.1 ≠ 0 then (nA s p).2.1 else if (nB s p).2.1 ≠ 0 then (nB s p).2.1 else (nV s p).2.1) else 1
/-- By how much the cycles grow. -/
def nxG (s : ByteArray) (p : Nat) : Int := ((n1 s p).1 : Int) + unfoldV (n2 s p).1
/-- The event, behind these stamps. -/
def nxEv (cy ct : Nat) (s : ByteArray) (p : Nat) : Ev := ⟨bt s p, cy + (nxG s p).toNat, ct + (n1 s p).1, (nA s p).1, (nB s p).1, (nV s p).1⟩
def nxOk (cy ct : Nat) (s : ByteArray) (p : Nat) : Bool := decide (0 ≤ nxG s p) && (decide (ct + (n1 s p).1 < 18446744073709551616) && (decide (cy + (nxG s p).toNat < 18446744073709551616) && decide ((nxEv cy ct s p).chk = 0)))
def nxT (cy ct : Nat) (s : ByteArray) (p : Nat) : Int := if nxE s p = 0 then (if nxOk cy ct s p = true then 0 else 5) else (nxE s p : Int)
theorem lmost_le {s : ByteArray} {p m : Nat} (h : (lmost s p m).2.1 = 0) : (lmost s p m).1 ≤ m := by
  unfold lmost at *
  split at h
  · cases h
  · rename_i hn
    rw [if_neg hn]
    rcases Nat.lt_or_ge m (lget s p).1 with h2 | h2
    · exact absurd ⟨h, h2⟩ hn
    · exact h2
theorem opt_le {h : Bool} {s : ByteArray} {p : Nat} (e : (opt h s p).2.1 = 0) : (opt h s p).1 ≤ M32 := by
  unfold opt at *
  split
  · rename_i hh
    rw [if_pos hh] at e
    exact lmost_le e
  · exact Nat.zero_le _
theorem opt_next {h : Bool} {s : ByteArray} {p : Nat} (hp : p ≤ s.size) : (opt h s p).2.2 ≤ s.size := by
  unfold opt
  split
  · exact lmost_next s p _ hp
  · exact hp
theorem n1_next {s : ByteArray} {p : Nat} (hp : p < s.size) : (n1 s p).2.2 ≤ s.size := lmost_next s _ _ hp
theorem n2_next {s : ByteArray} {p : Nat} (hp : p < s.size) : (n2 s p).2.2 ≤ s.size := lmost_next s _ _ (n1_next hp)
theorem nA_next {s : ByteArray} {p : Nat} (hp : p < s.size) : (nA s p).2.2 ≤ s.size := opt_next (n2_next hp)
theorem nB_next {s : ByteArray} {p : Nat} (hp : p < s.size) : (nB s p).2.2 ≤ s.size := opt_next (nA_next hp)
theorem nV_next {s : ByteArray} {p : Nat} (hp : p < s.size) : (nV s p).2.2 ≤ s.size := opt_next (nB_next hp)
end Go.Proofs.Ythdenjokedmcfaa
