/- Instructions in plain words: which fields one has, which can be, their lines. No program in sight. No condition but those that each names. -/
import Derived.Test.YtghfkpddkmaflaaDoorTx
namespace Go.Proofs.YtghfkpddkmaflaaDoor
open Go
set_option linter.unusedVariables false
set_option linter.unusedSimpArgs false
/-- An instruction. -/
structure Ins where
  o : Int
  a : Int
  b : Int
  c : Int
  d : Int
  k : Nat
deriving DecidableEq
instance : Inhabited Ins := ⟨⟨0, 0, 0, 0, 0, 0⟩⟩
/-- Its numbers are such as the machine has. -/
structure Ins.Wf (i : Ins) : Prop where
  o : -9223372036854775808 ≤ i.o ∧ i.o ≤ 9223372036854775807
  a : -9223372036854775808 ≤ i.a ∧ i.a ≤ 9223372036854775807
  b : -9223372036854775808 ≤ i.b ∧ i.b ≤ 9223372036854775807
  c : -9223372036854775808 ≤ i.c ∧ i.c ≤ 9223372036854775807
  d : -9223372036854775808 ≤ i.d ∧ i.d ≤ 9223372036854775807
  k : i.k < 4294967296
def Ins.f (i : Ins) : Nat → Value
  | 0 => .int .i64 i.o
  | 1 => .int .i64 i.a
  | 2 => .int .i64 i.b
  | 3 => .int .i64 i.c
  | 4 => .int .i64 i.d
  | _ => .int .u32 i.k
def Ins.cells (i : Ins) : List Value := [.int .i64 i.o, .int .i64 i.a, .int .i64 i.b, .int .i64 i.c, .int .i64 i.d, .int .u32 i.k]
def Ins.val (i : Ins) : Value := .agg #[.int .i64 i.o, .int .i64 i.a, .int .i64 i.b, .int .i64 i.c, .int .i64 i.d, .int .u32 i.k]
/-- Which fields, bit by bit. -/
def us (o : Int) : Nat :=
  if o = 1 ∨ o = 18 ∨ o = 19 ∨ o = 21 ∨ o = 22 ∨ o = 26 ∨ o = 30 ∨ o = 31 ∨ o = 32 then 17 else if o = 2 then 3 else if o = 15 ∨ o = 16 then 19 else if o = 17 ∨ o = 20 then 16 else if o = 23 ∨ o = 24 ∨ o = 25 then 1
  else if o = 27 ∨ o = 28 then 31 else if o = 29 then 21 else if o = 33 then 29 else if o = 34 then 5 else if 3 ≤ o ∧ o ≤ 14 then 7 else 0
def uA (o : Int) : Bool := us o % 2 == 1
def uB (o : Int) : Bool := us o / 2 % 2 == 1
def uC (o : Int) : Bool := us o / 4 % 2 == 1
def uD (o : Int) : Bool := us o / 8 % 2 == 1
def uK (o : Int) : Bool := us o / 16 % 2 == 1
def isI (o : Int) : Bool := decide (1 ≤ o ∧ o ≤ 38)
/-- Is a register's field right? -/
def rgB (n : Int) (h : Bool) : Bool := decide (0 ≤ n) && (decide (n < 8) && (h || n == 0))
/-- Has it a third register? -/
def hC (o d : Int) : Bool := uC o && (!uD o || d == 2)
def Ins.okB (i : Ins) : Bool :=
  (rgB i.a (uA i.o) && (rgB i.b (uB i.o) && rgB i.c (hC i.o i.d))) && ((decide (0 ≤ i.d) && (decide (i.d ≤ 2) && ((uD i.o || i.d == 0) && (uK i.o || decide (i.k = 0))))) &&
  ((!decide (i.o = 20) || decide (1 ≤ i.k ∧ i.k ≤ 1000)) && (!decide (i.o = 21 ∨ i.o = 22) || decide (i.k < 16))))
/-- Can it be? -/
def Ins.chk (i : Ins) : Int := if isI i.o = true then (if i.okB = true then 0 else 5) else 14
theorem us_no {o : Int} (h : o < 1 ∨ 34 < o) : us o = 0 := by
  unfold us
  rw [if_neg (by omega), if_neg (by omega), if_neg (by omega), if_neg (by omega), if_neg (by omega), if_neg (by omega), if_neg (by omega), if_neg (by omega), if_neg (by omega), if_neg (by omega)]
/-- The instructions' names. -/
def inL : List ByteArray := [⟨#[]⟩, ⟨#[115, 101, 116]⟩, ⟨#[109, 111, 118]⟩, ⟨#[97, 100, 100]⟩, ⟨#[115, 117, 98]⟩, ⟨#[109, 117, 108]⟩, ⟨#[100, 105, 118]⟩, ⟨#[109, 111, 100]⟩, ⟨#[97, 110, 100]⟩, ⟨#[111, 114]⟩, ⟨#[120, 111, 114]⟩, ⟨#[115, 104, 108]⟩, ⟨#[115, 104, 114]⟩, ⟨#[108, 116]⟩, ⟨#[101, 113]⟩, ⟨#[108, 111, 97, 100]⟩, ⟨#[115, 116, 111, 114, 101]⟩, ⟨#[106, 109, 112]⟩, ⟨#[106, 122]⟩, ⟨#[106, 110, 122]⟩, ⟨#[119, 111, 114, 107]⟩, ⟨#[105, 110]⟩, ⟨#[111, 117, 116]⟩, ⟨#[109, 97, 115, 107]⟩, ⟨#[115, 101, 108, 102]⟩, ⟨#[110, 111, 119]⟩, ⟨#[112, 111, 115, 116]⟩, ⟨#[115, 101, 110, 100]⟩, ⟨#[114, 101, 99, 118]⟩, ⟨#[97, 114, 109]⟩, ⟨#[100, 105, 115, 97, 114, 109]⟩, ⟨#[108, 111, 99, 107]⟩, ⟨#[117, 110, 108, 111, 99, 107]⟩, ⟨#[119, 97, 105, 116]⟩, ⟨#[115, 108, 101, 101, 112]⟩, ⟨#[121, 105, 101, 108, 100]⟩, ⟨#[110, 101, 120, 116]⟩, ⟨#[104, 97, 108, 116]⟩, ⟨#[105, 114, 101, 116]⟩]
def inm (o : Int) : ByteArray := if isI o = true then inL.getD o.toNat ⟨#[]⟩ else ⟨#[]⟩
theorem inm_no {o : Int} (h : isI o = false) : inm o = ⟨#[]⟩ := by unfold inm; rw [h]; rfl
/-- The first instruction of that name, from k on; 0: none. -/
def idF (s : ByteArray) : Nat → Nat → Nat
  | 0, _ => 0
  | f + 1, k => if inm k = s then k else idF s f (k + 1)
def iop (s : ByteArray) : Nat := idF s 38 1
/-- The last one, up to k. -/
def irF (s : ByteArray) : Nat → Nat
  | 0 => 0
  | k + 1 => if inm ((k + 1 : Nat) : Int) = s then k + 1 else irF s k
theorem idF_hit {s : ByteArray} : ∀ (f k : Nat), idF s f k = 0 ∨ (k ≤ idF s f k ∧ idF s f k < k + f ∧ inm (idF s f k) = s)
  | 0, k => Or.inl rfl
  | f + 1, k => by
    unfold idF
    split
    · exact Or.inr ⟨Nat.le_refl _, by omega, by assumption⟩
    · rcases idF_hit f (k + 1) with h | h
      · exact Or.inl h
      · exact Or.inr ⟨by omega, by omega, h.2.2⟩
theorem idF_none {s : ByteArray} : ∀ (f k : Nat), 1 ≤ k → idF s f k = 0 → ∀ j, k ≤ j → j < k + f → inm j ≠ s
  | 0, k, _, _, j, h1, h2 => by omega
  | f + 1, k, h0, h, j, h1, h2 => by
    unfold idF at h
    split at h
    · omega
    · by_cases e : j = k
      · subst e; assumption
      · exact idF_none f (k + 1) (by omega) h j (by omega) (by omega)
theorem irF_none {s : ByteArray} : ∀ k : Nat, (∀ j : Nat, 1 ≤ j → j ≤ k → inm j ≠ s) → irF s k = 0
  | 0, _ => rfl
  | k + 1, h => by
    unfold irF
    rw [if_neg (h (k + 1) (by omega) (Nat.le_refl _))]
    exact irF_none k fun j a b => h j a (by omega)
theorem iop_le (s : ByteArray) : iop s ≤ 38 := by
  rcases idF_hit (s := s) 38 1 with h | h
  · show idF s 38 1 ≤ 38; omega
  · show idF s 38 1 ≤ 38; omega
theorem iop_all : ∀ k, k < 38 → iop (inm ((k + 1 : Nat) : Int)) = k + 1 ∧ irF (inm ((k + 1 : Nat) : Int)) 38 = k + 1 := by decide +kernel
theorem iop_nm (k : Nat) (h1 : 1 ≤ k) (h2 : k ≤ 38) : iop (inm k) = k ∧ irF (inm k) 38 = k := by
  have := iop_all (k - 1) (by omega)
  rw [show k - 1 + 1 = k by omega] at this
  exact this
theorem iop_some {s : ByteArray} (h : iop s ≠ 0) : 1 ≤ iop s ∧ iop s ≤ 38 ∧ inm (iop s) = s := by
  rcases idF_hit (s := s) 38 1 with h1 | h1
  · exact absurd h1 h
  · exact ⟨h1.1, by show idF s 38 1 ≤ 38; omega, h1.2.2⟩
theorem ir_iop (s : ByteArray) : irF s 38 = iop s := by
  by_cases h : iop s = 0
  · rw [h]
    exact irF_none 38 fun j a b => idF_none 38 1 (by omega) h j a (by omega)
  · obtain ⟨h1, h2, h3⟩ := iop_some h
    have := (iop_nm (iop s) h1 h2).2
    rw [h3] at this
    exact this
/-- A mode's name. -/
def mdB (d : Int) : ByteArray := if d = 0 then ⟨#[119, 97, 105, 116]⟩ else if d = 1 then ⟨#[116, 114, 121]⟩ else ⟨#[116, 105, 109, 101, 100]⟩
/-- A register's word. -/
def rgL (n : Int) : List UInt8 := 114 :: Lib.decDigits n.toNat
/-- A line's words. -/
def linW (i : Ins) : List (List UInt8) :=
  (inm i.o).data.toList :: ((if uA i.o then [rgL i.a] else []) ++ ((if uB i.o then [rgL i.b] else []) ++ ((if uD i.o then [(mdB i.d).data.toList] else []) ++ ((if hC i.o i.d then [rgL i.c] else []) ++ (if uK i.o then [Lib.decDigits i.k] else [])))))
def lin (i : Ins) : List UInt8 := joinW (linW i)
/-- The register that a word is. -/
def rdR (w : List UInt8) : Option Nat :=
  match w with
  | [x, y] => if x = 114 ∧ 48 ≤ y.toNat ∧ y.toNat < 56 then some (y.toNat - 48) else none
  | _ => none
/-- The mode that a word is. -/
def rdD (w : List UInt8) : Option Nat := if w = (mdB 0).data.toList then some 0 else if w = (mdB 1).data.toList then some 1 else if w = (mdB 2).data.toList then some 2 else none
/-- One more field, if there is one. -/
def tkF (h : Bool) (rd : List UInt8 → Option Nat) (r : List (List UInt8)) : Option (Nat × List (List UInt8)) :=
  if h then (match r with | [] => none | x :: t => (rd x).map fun n => (n, t)) else some (0, r)
/-- The instruction that some words are. -/
def insE (W : List (List UInt8)) : Option Ins :=
  let o := iop ⟨(W.getD 0 []).toArray⟩
  if o = 0 then none else
  (tkF (uA o) rdR (W.drop 1)).bind fun a => (tkF (uB o) rdR a.2).bind fun b => (tkF (uD o) rdD b.2).bind fun d => (tkF (hC o d.1) rdR d.2).bind fun c => (tkF (uK o) (numP 32) c.2).bind fun k =>
    if k.2 = [] then some ⟨o, a.1, b.1, c.1, d.1, k.1⟩ else none
def ifin (i : Ins) : Ins × Int := if i.chk = 0 then (i, 0) else (default, i.chk)
/-- What a line is. -/
def ins (l : List UInt8) : Ins × Int := match insE (wds l) with | none => (default, 3) | some i => ifin i
end Go.Proofs.YtghfkpddkmaflaaDoor
