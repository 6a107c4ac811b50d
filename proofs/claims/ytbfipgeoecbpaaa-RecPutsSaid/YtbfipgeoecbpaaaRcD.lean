/- A law's script as an argument; what a script makes of a recorder. No condition. -/
import Derived.Test.YtbfipgeoecbpaaaRcS
import Derived.Test.YtbfipgeoecbpaaaRcA
import Derived.Deep.DeepMust
namespace Go.Proofs.Ytbfipgeoecbpaaa
open Go.WideShapes Go.Deep Go.RowKit
set_option linter.unusedVariables false
set_option linter.unusedSimpArgs false
set_option maxRecDepth 20000
/-- A call of a script. -/
structure OpR where
  k : Int
  e : Ev
instance : Inhabited OpR := ⟨⟨0, default⟩⟩
def OpR.cells (o : OpR) : List Value := .int .i64 o.k :: o.e.cells
def OpR.f (o : OpR) : Nat → Value
  | 0 => .int .i64 o.k
  | j + 1 => o.e.f j
structure OpR.Wf (o : OpR) : Prop where
  k0 : -9223372036854775808 ≤ o.k
  k1 : o.k ≤ 9223372036854775807
  e : o.e.Wf
theorem op_of {H : Type} {enc : TypeId × Value → H} {W : World} {base n : Nat} {held : Bool} {cs : List Value} {x : DataW H × List MemPlace} (hl : cs.length = 7)
    (hn : DataW.trod enc Try.prog W base (fun _ => true) held n 59 cs = some x) : ∃ o : OpR, cs = o.cells ∧ o.Wf := by
  match cs, hl with
  | c0 :: cs', hl' =>
    obtain ⟨ys, n', _, _, _, hyl, hf⟩ := DataW.trod_struct Try.underlying59 hn
    have hyl : ys.length = 2 := hyl
    have k1 : Try.prog.cellsOf 3 = 1 := by kernel_rfl
    have k2 : Try.prog.cellsOf 25 = 6 := by kernel_rfl
    have h0 : DataW.trod enc Try.prog W base (fun _ => true) held n' 3 (List.take (Try.prog.cellsOf 3) (c0 :: cs')) = ys[0]? := hf 0 _ rfl
    have h1 : DataW.trod enc Try.prog W base (fun _ => true) held n' 25 (List.take (Try.prog.cellsOf 25) cs') = ys[1]? := hf 1 _ rfl
    rw [k1, List.getElem?_eq_getElem (by omega)] at h0
    rw [k2, List.getElem?_eq_getElem (by omega)] at h1
    obtain ⟨z0, e0, _, w0⟩ := DataW.trod_int Try.underlying3 h0
    simp at e0
    obtain ⟨r0, r1⟩ := i64_of w0
    have hl6 : cs'.length = 6 := by simpa using hl'
    rw [List.take_of_length_le (by omega)] at h1
    obtain ⟨e, he, hw⟩ := evr_of hl6 h1
    subst e0
    exact ⟨⟨z0, e⟩, by rw [he]; rfl, r0, r1, hw⟩
theorem slArg_struct59 {H : Type} {enc : TypeId × Value → H} {W : World} {base : Nat} {held : Bool} {v : Value} {d : DataW H} {ps : List MemPlace}
    (hv : ∃ a len cap, v = .slice a len cap) (h : DataW.Trod enc Try.prog W base (fun _ => true) held 53 v d ps) :
    ∃ (oa : Option Addr) (len cap : Nat) (z : Nat → OpR), v = .slice oa len cap ∧ SlArgN W oa len cap 7 (fun i j => (z i).f j) ∧ SlLen d cap ∧ ∀ i, i < len → (z i).Wf := by
  obtain ⟨oa, len, cap, L, rfl, hs, hd, hx⟩ := slArgN_any (c := 7) Try.underlying53 (by kernel_rfl) (by decide) hv h
  have key : ∀ i, i < len → ∃ o : OpR, (∀ j, j < 7 → (L i).getD j (.bool false) = o.f j) ∧ o.Wf := by
    intro i hi
    obtain ⟨hl, n, x, hn⟩ := hx i hi
    obtain ⟨e, he, hw⟩ := op_of hl hn
    refine ⟨e, fun j hj => ?_, hw⟩
    rw [he]
    match j, hj with
    | 0, _ => rfl
    | 1, _ => rfl
    | 2, _ => rfl
    | 3, _ => rfl
    | 4, _ => rfl
    | 5, _ => rfl
    | 6, _ => rfl
  obtain ⟨z, hz⟩ := Go.Deep.choose_lt (α := OpR) (p := fun i o => (∀ j, j < 7 → (L i).getD j (.bool false) = o.f j) ∧ o.Wf) key
  exact ⟨oa, len, cap, z, rfl, hs.congr fun i hi => (hz i hi).1, hd, fun i hi => (hz i hi).2⟩
/-- A recorder behind one call of a script; behind k of them. -/
def OpR.go (room : Nat) (R : Rcd) (o : OpR) : Rcd := if o.k = 1 then R.put room o.e else if o.k = 2 then R.flush else if o.k = 3 then R.close room o.e.cy o.e.ct else R
def opsR (room : Nat) (z : Nat → OpR) : Nat → Rcd
  | 0 => rcd0
  | n + 1 => (z n).go room (opsR room z n)
theorem ops_cnt (room : Nat) (z : Nat → OpR) : ∀ n, (opsR room z n).cnt ≤ n
  | 0 => Nat.le_refl _
  | n + 1 => by
    have h := ops_cnt room z n
    show ((z n).go room (opsR room z n)).cnt ≤ _
    unfold OpR.go
    split
    · have := cnt_put room (opsR room z n) (z n).e; omega
    · split
      · rw [cnt_flush]; omega
      · split
        · have := cnt_close room (opsR room z n) (z n).e.cy (z n).e.ct; omega
        · omega
theorem op_cells {W : World} {o : Nat} {p : OpR} {T : TypeId} (h : W.heap[o]? = some (.cells p.cells.toArray T (0, 0))) : W.cell? ⟨o, 0, none⟩ = some (.int .i64 p.k) ∧ W.cell? ⟨o, 1, none⟩ = some (.int .i64 p.e.k) ∧ W.cell? ⟨o, 2, none⟩ = some (.int .u64 p.e.cy) ∧ W.cell? ⟨o, 3, none⟩ = some (.int .u64 p.e.ct) ∧ W.cell? ⟨o, 4, none⟩ = some (.int .u32 p.e.a) ∧ W.cell? ⟨o, 5, none⟩ = some (.int .u32 p.e.b) ∧ W.cell? ⟨o, 6, none⟩ = some (.int .u32 p.e.v) := by
  refine ⟨?_, ?_, ?_, ?_, ?_, ?_, ?_⟩ <;> (rw [cell_blk h]; rfl)
end Go.Proofs.Ytbfipgeoecbpaaa
