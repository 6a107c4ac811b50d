/- Frames in plain words: the marker, a frame's bytes, what stands at a place. No program in sight. No condition. -/
import Derived.Test.YthdenjokedmcfaaCrc
import Derived.Test.YthdenjokedmcfaaNumS
import Derived.Test.YthdenjokedmcfaaRd
import Derived.Test.YthdenjokedmcfaaCurF
namespace Go.Proofs.Ythdenjokedmcfaa
open Go.RowKit
def six255 : List UInt8 := List.replicate 16 255
def tafril : List UInt8 := [84, 65, 70, 82, 73, 76]
def mk : List UInt8 := six255 ++ tafril
theorem mk_len : mk.length = 22 := rfl
/-- A frame's head behind the run, its bytes. -/
def frH (seq cy ct len : Nat) : List UInt8 := tafril ++ sep 5 seq ++ sep 10 cy ++ sep 10 ct ++ sep 2 len
def frB (seq : Nat) (z : Nat → Ev) (n : Nat) : List UInt8 :=
  six255 ++ frH seq (z 0).cy (z 0).ct (prnC z n).length ++ sep 5 (crcV (frH seq (z 0).cy (z 0).ct (prnC z n).length)) ++ prnC z n ++ sep 5 (crcV (prnC z n))
def frE (z : Nat → Ev) (n : Nat) : Int := if n = 0 then 8 else if prnE z n ≠ 0 then prnE z n else if 120 < (prnC z n).length then 4 else 0
def frS (seq : Nat) (z : Nat → Ev) (n : Nat) : List UInt8 := if frE z n = 0 then frB seq z n else []
theorem frH_len (seq cy ct len : Nat) : (frH seq cy ct len).length = 33 := by
  unfold frH tafril
  simp [sep_len]
theorem sput_ok {n c : Nat} (h1 : 1 ≤ c) (h2 : c ≤ 10) (h : n < 128 ^ c) : sput n (c : Int) = (0, sep c n) := by
  unfold sput
  rw [if_neg (by omega)]
  simp only [Int.toNat_natCast]
  rw [if_pos h]
theorem sput5 {n : Nat} (h : n < 4294967296) : sput n 5 = (0, sep 5 n) := sput_ok (c := 5) (by decide) (by decide) (by omega)
theorem sput10 {n : Nat} (h : n < 18446744073709551616) : sput n 10 = (0, sep 10 n) := sput_ok (c := 10) (by decide) (by decide) (by omega)
theorem sput2 {n : Nat} (h : n ≤ 120) : sput n 2 = (0, sep 2 n) := sput_ok (c := 2) (by decide) (by decide) (by omega)
/-- A number of 32 bits at a place; an error; the place behind. -/
def wrd (s : ByteArray) (p : Nat) : Nat × Nat × Nat := if (sget s p 5).2.1 = 0 ∧ 4294967295 < (sget s p 5).1 then (0, 5, (sget s p 5).2.2) else sget s p 5
theorem wrd_le (s : ByteArray) (p : Nat) (hp : p ≤ s.size) : (wrd s p).1 ≤ 4294967295 := by
  unfold wrd
  split
  · exact Nat.zero_le _
  · rename_i h
    by_cases e : (sget s p 5).2.1 = 0
    · exact Nat.le_of_not_lt fun x => h ⟨e, x⟩
    · rw [((sget_next s p 5 hp).2 e).1]; exact Nat.zero_le _
theorem wrd_next (s : ByteArray) (p : Nat) (hp : p ≤ s.size) : (wrd s p).2.2 ≤ s.size := by
  unfold wrd
  split
  · exact (sget_next s p 5 hp).1
  · exact (sget_next s p 5 hp).1
/-- Is the sum at a place that of some bytes? The place behind. -/
def smE (s : ByteArray) (p : Nat) (l : List UInt8) : Nat := if (wrd s p).2.1 = 0 ∧ (wrd s p).1 ≠ crcV l then 6 else (wrd s p).2.1
/-- What stands ahead of a payload. -/
def fh1 (s : ByteArray) (p : Nat) : Nat × Nat × Nat := wrd s (p + 22)
def fh2 (s : ByteArray) (p : Nat) : Nat × Nat × Nat := sget s (fh1 s p).2.2 10
def fh3 (s : ByteArray) (p : Nat) : Nat × Nat × Nat := sget s (fh2 s p).2.2 10
def fh4 (s : ByteArray) (p : Nat) : Nat × Nat × Nat := sget s (fh3 s p).2.2 2
def fhB (s : ByteArray) (p : Nat) : List UInt8 := (s.extract (p + 16) (fh4 s p).2.2).data.toList
def fhE (s : ByteArray) (p : Nat) : Nat :=
  if agree s p ⟨mk.toArray⟩ < 22 then (if agree s p ⟨mk.toArray⟩ = s.size - p then 2 else 3)
  else if (fh1 s p).2.1 ≠ 0 then (fh1 s p).2.1 else if (fh2 s p).2.1 ≠ 0 then (fh2 s p).2.1 else if (fh3 s p).2.1 ≠ 0 then (fh3 s p).2.1 else if (fh4 s p).2.1 ≠ 0 then (fh4 s p).2.1
  else if (fh4 s p).1 < 1 ∨ 120 < (fh4 s p).1 then 4 else smE s (fh4 s p).2.2 (fhB s p)
def fhQ (s : ByteArray) (p : Nat) : Nat := (wrd s (fh4 s p).2.2).2.2
def fhP (s : ByteArray) (p : Nat) : ByteArray := s.extract (fhQ s p) (fhQ s p + (fh4 s p).1)
/-- The frame at a place: the error, the number, the events, the place behind. -/
def fRd (s : ByteArray) (p : Nat) : Int × Nat × List Ev × Nat :=
  if fhE s p ≠ 0 then ((fhE s p : Int), 0, [], 0)
  else if s.size - fhQ s p < (fh4 s p).1 then (2, 0, [], 0)
  else if smE s (fhQ s p + (fh4 s p).1) (fhP s p).data.toList ≠ 0 then ((smE s (fhQ s p + (fh4 s p).1) (fhP s p).data.toList : Int), 0, [], 0)
  else if (rdL (fhP s p) (fhP s p).size (fh2 s p).1 (fh3 s p).1 0).2 ≠ 0 then ((rdL (fhP s p) (fhP s p).size (fh2 s p).1 (fh3 s p).1 0).2, 0, [], 0)
  else if ((rdL (fhP s p) (fhP s p).size (fh2 s p).1 (fh3 s p).1 0).1.getD 0 default).cy ≠ (fh2 s p).1 ∨ ((rdL (fhP s p) (fhP s p).size (fh2 s p).1 (fh3 s p).1 0).1.getD 0 default).ct ≠ (fh3 s p).1 then (3, 0, [], 0)
  else (0, (fh1 s p).1, (rdL (fhP s p) (fhP s p).size (fh2 s p).1 (fh3 s p).1 0).1, (wrd s (fhQ s p + (fh4 s p).1)).2.2)
def frR (s : ByteArray) (at_ : Int) : Int × Nat × List Ev × Nat := if at_ < 0 ∨ (s.size : Int) < at_ then (1, 0, [], 0) else fRd s at_.toNat
end Go.Proofs.Ythdenjokedmcfaa
