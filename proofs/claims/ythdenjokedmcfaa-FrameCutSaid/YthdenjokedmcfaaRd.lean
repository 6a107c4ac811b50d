/- What some bytes are, behind a base, in plain words. No program in sight. No condition. -/
import Derived.Test.YthdenjokedmcfaaNx
namespace Go.Proofs.Ythdenjokedmcfaa
open Go.RowKit
/-- The events from place p on (f: rounds that are left), and the error. -/
def rdL (s : ByteArray) : Nat → Nat → Nat → Nat → List Ev × Int
  | 0, _, _, _ => ([], 0)
  | f + 1, cy, ct, p =>
    if p < s.size then
      if nxT cy ct s p = 0 then
        ((nxEv cy ct s p) :: (rdL s f (nxEv cy ct s p).cy (nxEv cy ct s p).ct (nV s p).2.2).1, (rdL s f (nxEv cy ct s p).cy (nxEv cy ct s p).ct (nV s p).2.2).2)
      else ([], nxT cy ct s p)
    else ([], 0)
theorem lgo_ge (s : ByteArray) (p : Nat) : ∀ (f k acc : Nat), p ≤ (lgo s p f k acc).2.2
  | 0, _, _ => Nat.le_refl _
  | f + 1, k, acc => by
    rw [lgo]
    split
    · split
      · exact Nat.le_refl _
      · split
        · show p ≤ p + k + 1
          omega
        · exact lgo_ge s p f _ _
    · exact Nat.le_refl _
theorem lmost_ge (s : ByteArray) (p m : Nat) : p ≤ (lmost s p m).2.2 := by
  unfold lmost
  split
  · exact Nat.le_refl _
  · exact lgo_ge s p 10 0 0
theorem opt_ge (h : Bool) (s : ByteArray) (p : Nat) : p ≤ (opt h s p).2.2 := by
  unfold opt
  split
  · exact lmost_ge s p _
  · exact Nat.le_refl _
theorem nV_gt (s : ByteArray) (p : Nat) : p < (nV s p).2.2 := by
  have h1 : p + 1 ≤ (n1 s p).2.2 := lmost_ge s _ _
  have h2 : (n1 s p).2.2 ≤ (n2 s p).2.2 := lmost_ge s _ _
  have h3 : (n2 s p).2.2 ≤ (nA s p).2.2 := opt_ge _ s _
  have h4 : (nA s p).2.2 ≤ (nB s p).2.2 := opt_ge _ s _
  have h5 : (nB s p).2.2 ≤ (nV s p).2.2 := opt_ge _ s _
  omega
end Go.Proofs.Ythdenjokedmcfaa
