/- A recorder in plain words: which frames it makes. No program in sight. No condition. -/
import Derived.Test.YtbfipgeoecbpaaaBF
import Derived.Test.YtbfipgeoecbpaaaBC
namespace Go.Proofs.Ytbfipgeoecbpaaa
open Go.RowKit
set_option linter.unusedVariables false
set_option linter.unusedSimpArgs false
/-- Some events' bytes; can they stand so? -/
def lB (l : List Ev) : List UInt8 := chB (l.getD 0 default) l
def lOk (l : List Ev) : Prop := chOk (l.getD 0 default) l
theorem lB_prn (l : List Ev) : prnC (fun i => l.getD i default) l.length = lB l := by
  rw [prnC_ch, range_getD]; rfl
theorem lOk_wf {l : List Ev} (h : lOk l) : ∀ i, i < l.length → (l.getD i default).Wf := by
  intro i hi
  have : l.getD i default = l[i] := by simp [List.getElem?_eq_getElem hi]
  rw [this]
  exact chOk_wf l _ h _ (List.getElem_mem hi)
theorem lOk_prn {l : List Ev} (h : lOk l) : prnE (fun i => l.getD i default) l.length = 0 := by
  rw [prnE_ch _ _ (lOk_wf h), range_getD]
  exact h
theorem prn_lOk {l : List Ev} (hw : ∀ i, i < l.length → (l.getD i default).Wf) (h : prnE (fun i => l.getD i default) l.length = 0) : lOk l := by
  have := (prnE_ch _ _ hw).1 h
  rw [range_getD] at this
  exact this
theorem lB_one (e : Ev) : lB [e] = evBytes e e := by simp [lB, chB]
theorem lOk_one {e : Ev} (hw : e.Wf) (hc : e.chk = 0) : lOk [e] := by
  refine ⟨?_, hw, trivial⟩
  rw [evErr_ok]
  refine ⟨hc, ?_⟩
  show (Stp e e).2.2 = true
  rw [stp_self]
theorem getD_app {l : List Ev} {e : Ev} (h : l ≠ []) : (l ++ [e]).getD 0 default = l.getD 0 default := by
  cases l with
  | nil => exact absurd rfl h
  | cons x t => rfl
theorem lastD_any {l : List Ev} (h : l ≠ []) (b c : Ev) : l.getLastD b = l.getLastD c := by
  cases l with
  | nil => exact absurd rfl h
  | cons x t => rfl
theorem lB_snoc {l : List Ev} {e : Ev} (h : l ≠ []) : lB (l ++ [e]) = lB l ++ evBytes (l.getLastD default) e := by
  unfold lB
  rw [getD_app h, chB_snoc, lastD_any h _ default]
theorem lOk_snoc {l : List Ev} {e : Ev} (h : l ≠ []) : lOk (l ++ [e]) ↔ lOk l ∧ evErr (l.getLastD default) e = 0 ∧ e.Wf := by
  unfold lOk
  rw [getD_app h, chOk_snoc, lastD_any h _ default]
theorem lB_one_len {e : Ev} (hw : e.Wf) (hc : e.chk = 0) : 3 ≤ (lB [e]).length ∧ (lB [e]).length ≤ 20 := by
  rw [lB_one]
  exact ⟨evb_pos e e, evb_le hw (by rw [stp_self]) hc⟩
/-- A frame's text. -/
def frT (seq : Nat) (l : List Ev) : List UInt8 := frS seq (fun i => l.getD i default) l.length
theorem frE_ok {l : List Ev} (h : lOk l) (h0 : l ≠ []) (h1 : (lB l).length ≤ 120) : frE (fun i => l.getD i default) l.length = 0 := by
  unfold frE
  rw [if_neg (by intro x; exact h0 (List.eq_nil_of_length_eq_zero x)), if_neg (by rw [lOk_prn h]; decide), lB_prn, if_neg (by omega)]
theorem frT_len {seq : Nat} {l : List Ev} (h : lOk l) (h0 : l ≠ []) (h1 : (lB l).length ≤ 120) : (frT seq l).length = 59 + (lB l).length := by
  unfold frT frS
  rw [if_pos (frE_ok h h0 h1), frB_len, lB_prn]
/-- A recorder: the frames that were made, the open one, the last event. -/
structure Rcd where
  fr : List (List Ev)
  op : List Ev
  last : Ev
  cl : Bool
def Rcd.fits (room : Nat) (R : Rcd) (e : Ev) : Bool := (Stp R.last e).2.2 && decide ((lB R.op).length + (evBytes R.last e).length ≤ room)
def Rcd.flush (R : Rcd) : Rcd := if R.op = [] then R else { R with fr := R.fr ++ [R.op], op := [] }
def Rcd.fl (room : Nat) (R : Rcd) (e : Ev) : Rcd := if R.fits room e = true then R else R.flush
def Rcd.err (R : Rcd) (e : Ev) : Int := if R.cl = true then 2 else if e.chk ≠ 0 then 3 else if e.ct < R.last.ct ∨ e.cy < R.last.cy then 5 else 0
def Rcd.put (room : Nat) (R : Rcd) (e : Ev) : Rcd := if R.err e ≠ 0 then R else { R.fl room e with op := (R.fl room e).op ++ [e], last := e }
def closeEv (cy ct : Nat) : Ev := ⟨24, cy, ct, 0, 0, 0⟩
def Rcd.close (room : Nat) (R : Rcd) (cy ct : Nat) : Rcd := if R.err (closeEv cy ct) ≠ 0 then R else { (R.put room (closeEv cy ct)).flush with cl := true }
def rcd0 : Rcd := ⟨[], [], ⟨0, 0, 0, 0, 0, 0⟩, false⟩
/-- What holds of a recorder always. -/
structure Rcd.Inv (room : Nat) (R : Rcd) : Prop where
  op : R.op ≠ [] → lOk R.op ∧ R.op.getLastD default = R.last ∧ (lB R.op).length ≤ room
  last : R.last.Wf
  fr : ∀ f ∈ R.fr, lOk f ∧ f ≠ [] ∧ (lB f).length ≤ room
theorem rcd0_inv (room : Nat) : rcd0.Inv room := ⟨fun h => absurd rfl h, ⟨by decide, by decide, by decide, by decide, by decide, by decide, by decide⟩, fun f hf => by cases hf⟩
theorem Rcd.Inv.flush {room : Nat} {R : Rcd} (h : R.Inv room) : R.flush.Inv room := by
  unfold Rcd.flush
  split
  · exact h
  · rename_i h0
    refine ⟨fun x => absurd rfl x, h.last, fun f hf => ?_⟩
    rcases List.mem_append.1 hf with hf | hf
    · exact h.fr f hf
    · obtain rfl : f = R.op := by simpa using hf
      exact ⟨(h.op h0).1, h0, (h.op h0).2.2⟩
theorem err_zero {R : Rcd} {e : Ev} (h : R.err e = 0) : R.cl = false ∧ e.chk = 0 ∧ R.last.ct ≤ e.ct ∧ R.last.cy ≤ e.cy := by
  unfold Rcd.err at h
  split at h
  · cases h
  · rename_i h1
    split at h
    · cases h
    · rename_i h2
      split at h
      · cases h
      · rename_i h3
        exact ⟨by simpa using h1, by simpa using h2, by omega, by omega⟩
theorem flush_last (R : Rcd) : R.flush.last = R.last := by unfold Rcd.flush; split <;> rfl
theorem flush_op (R : Rcd) : R.flush.op = [] := by
  unfold Rcd.flush
  split
  · assumption
  · rfl
theorem fl_last (room : Nat) (R : Rcd) (e : Ev) : (R.fl room e).last = R.last := by unfold Rcd.fl; split; rfl; exact flush_last R
/-- How an event is put: the open frame takes it, or is flushed ahead of it. -/
theorem put_size {room : Nat} {R : Rcd} (h : R.Inv room) {e : Ev} (hw : e.Wf) (he : R.err e = 0) (hr : 20 ≤ room) : lOk ((R.fl room e).op ++ [e]) ∧ (lB ((R.fl room e).op ++ [e])).length ≤ room ∧ (lB ((R.fl room e).op ++ [e])).length = (lB (R.fl room e).op).length + (evBytes (if (R.fl room e).op = [] then e else R.last) e).length := by
  obtain ⟨h1, h2, h3, h4⟩ := err_zero he
  have hone := lB_one_len hw h2
  by_cases h0 : (R.fl room e).op = []
  · rw [h0, List.nil_append, if_pos rfl]
    refine ⟨lOk_one hw h2, by omega, ?_⟩
    rw [lB_one]
    show _ = (lB []).length + _
    simp [lB, chB]
  · rw [if_neg h0]
    have hf : R.fits room e = true := by
      by_cases hf : R.fits room e = true
      · exact hf
      · exfalso
        unfold Rcd.fl at h0
        rw [if_neg hf, flush_op] at h0
        exact h0 rfl
    have hfl : R.fl room e = R := if_pos hf
    rw [hfl] at h0 ⊢
    obtain ⟨k1, k2, k3⟩ := h.op h0
    unfold Rcd.fits at hf
    simp only [Bool.and_eq_true, decide_eq_true_eq] at hf
    rw [lB_snoc h0, k2, List.length_append]
    exact ⟨(lOk_snoc h0).2 ⟨k1, by rw [k2, evErr_ok]; exact ⟨h2, hf.1⟩, hw⟩, hf.2, rfl⟩
theorem Rcd.Inv.fl {room : Nat} {R : Rcd} (h : R.Inv room) (e : Ev) : (R.fl room e).Inv room := by
  unfold Rcd.fl
  split
  · exact h
  · exact h.flush
theorem Rcd.Inv.put {room : Nat} {R : Rcd} (h : R.Inv room) {e : Ev} (hw : e.Wf) (hr : 20 ≤ room) : (R.put room e).Inv room := by
  unfold Rcd.put
  split
  · exact h
  · rename_i he
    have he : R.err e = 0 := by simpa using he
    obtain ⟨h1, h2, h3⟩ := put_size h hw he hr
    exact ⟨fun _ => ⟨h1, by simp, h2⟩, hw, (h.fl e).fr⟩
theorem closeEv_wf {cy ct : Nat} (h1 : cy < 18446744073709551616) (h2 : ct < 18446744073709551616) : (closeEv cy ct).Wf := ⟨by show (-9223372036854775808 : Int) ≤ 24; decide, by show (24 : Int) ≤ 9223372036854775807; decide, h1, h2, by show (0 : Nat) < 4294967296; decide, by show (0 : Nat) < 4294967296; decide, by show (0 : Nat) < 4294967296; decide⟩
theorem Rcd.Inv.close {room : Nat} {R : Rcd} (h : R.Inv room) {cy ct : Nat} (h1 : cy < 18446744073709551616) (h2 : ct < 18446744073709551616) (hr : 20 ≤ room) : (R.close room cy ct).Inv room := by
  unfold Rcd.close
  split
  · exact h
  · have := (h.put (closeEv_wf h1 h2) hr).flush
    exact ⟨this.op, this.last, this.fr⟩
/-- The frames' texts. -/
def txt : Nat → List (List Ev) → List (List UInt8)
  | _, [] => []
  | k, f :: t => frT k f :: txt (k + 1) t
theorem txt_snoc : ∀ (t : List (List Ev)) (k : Nat) (f : List Ev), txt k (t ++ [f]) = txt k t ++ [frT (k + t.length) f]
  | [], k, f => rfl
  | g :: t, k, f => by
    rw [List.cons_append, txt, txt, txt_snoc t (k + 1) f, List.cons_append, List.length_cons, show k + 1 + t.length = k + (t.length + 1) by omega]
theorem txt_len : ∀ (t : List (List Ev)) (k : Nat), (txt k t).length = t.length
  | [], _ => rfl
  | g :: t, k => by rw [txt, List.length_cons, txt_len t, List.length_cons]
theorem txt_sum {room : Nat} (hr : room ≤ 120) : ∀ (t : List (List Ev)) (k : Nat), (∀ f ∈ t, lOk f ∧ f ≠ [] ∧ (lB f).length ≤ room) → (txt k t).flatten.length ≤ 179 * t.length
  | [], _, _ => Nat.le_refl _
  | g :: t, k, h => by
    rw [txt, List.flatten_cons, List.length_append, List.length_cons]
    obtain ⟨h1, h2, h3⟩ := h g (by simp)
    have := txt_sum hr t (k + 1) fun f hf => h f (by simp [hf])
    have := frT_len (seq := k) h1 h2 (by omega)
    omega
end Go.Proofs.Ytbfipgeoecbpaaa
