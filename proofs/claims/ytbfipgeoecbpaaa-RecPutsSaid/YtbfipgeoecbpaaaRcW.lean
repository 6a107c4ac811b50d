/- Frames that were made without flushes are as long as may be (plain); ref09.All. No condition but those that each names. -/
import Derived.Test.YtbfipgeoecbpaaaRcL4
import Derived.Test.YtbfipgeoecbpaaaHuR
import Derived.Test.YtbfipgeoecbpaaaRcL2
namespace Go.Proofs.Ytbfipgeoecbpaaa
open Go.RowKit
set_option linter.unusedVariables false
set_option linter.unusedSimpArgs false
set_option maxRecDepth 20000
/-- The first event of g doesn't stand behind f. -/
def Np (room : Nat) (f g : List Ev) : Prop := ∀ e, g.head? = some e → ¬ (lOk (f ++ [e]) ∧ (lB (f ++ [e])).length ≤ room)
def Mx (room : Nat) (L : List (List Ev)) : Prop := ∀ i, i + 1 < L.length → Np room (L.getD i []) (L.getD (i + 1) [])
theorem getD_lt {L M : List (List Ev)} {i : Nat} (h : i < L.length) : (L ++ M).getD i [] = L.getD i [] := by
  rw [List.getD_eq_getElem?_getD, List.getElem?_append_left h, ← List.getD_eq_getElem?_getD]
theorem getD_end {L : List (List Ev)} {f : List Ev} {i : Nat} (h : i = L.length) : (L ++ [f]).getD i [] = f := by
  subst h
  rw [List.getD_eq_getElem?_getD, List.getElem?_append_right (Nat.le_refl _), Nat.sub_self]; rfl
theorem Mx.snoc {room : Nat} {L : List (List Ev)} {f g : List Ev} (h : Mx room (L ++ [f])) (n : Np room f g) : Mx room (L ++ [f] ++ [g]) := by
  intro i hi
  have hi2 : i + 1 < L.length + 1 + 1 := by simpa using hi
  by_cases h1 : i + 1 < L.length + 1
  · rw [getD_lt (L := L ++ [f]) (M := [g]) (i := i) (by simp; omega), getD_lt (L := L ++ [f]) (M := [g]) (i := i + 1) (by simp; omega)]
    exact h i (by simp; omega)
  · rw [getD_lt (L := L ++ [f]) (M := [g]) (i := i) (by simp; omega), getD_end (L := L) (i := i) (by omega), getD_end (L := L ++ [f]) (i := i + 1) (by simp; omega)]
    exact n
theorem Mx.longer {room : Nat} {L : List (List Ev)} {f : List Ev} {e : Ev} (h : Mx room (L ++ [f])) (hf : f ≠ []) : Mx room (L ++ [f ++ [e]]) := by
  intro i hi
  have hi2 : i + 1 < L.length + 1 := by simpa using hi
  have h0 := h i (by simp; omega)
  by_cases h1 : i + 1 < L.length
  · rw [getD_lt (L := L) (i := i) (by omega), getD_lt (L := L) (i := i + 1) h1] at h0 ⊢
    exact h0
  · rw [getD_lt (L := L) (i := i) (by omega), getD_end (L := L) (i := i + 1) (by omega)] at h0 ⊢
    intro e' he'
    refine h0 e' ?_
    cases f with
    | nil => exact absurd rfl hf
    | cons a t => exact he'
structure Rcd.Long (room : Nat) (R : Rcd) : Prop where
  emp : R.op = [] → R.fr = []
  mx : Mx room (R.fr ++ [R.op])
theorem rcd0_long (room : Nat) : rcd0.Long room := ⟨fun _ => rfl, fun i hi => by have : i + 1 < 1 := hi; omega⟩
theorem Rcd.Long.put {room : Nat} {R : Rcd} (h : R.Long room) (hi : R.Inv room) (e : Ev) : (R.put room e).Long room := by
  by_cases he : R.err e = 0
  · have hp : R.put room e = { R.fl room e with op := (R.fl room e).op ++ [e], last := e } := if_neg (fun q => q he)
    rw [hp]
    by_cases h0 : R.op = []
    · have hf := h.emp h0
      have hfl : (R.fl room e).fr = [] ∧ (R.fl room e).op = [] := by
        unfold Rcd.fl
        split
        · exact ⟨hf, h0⟩
        · have : R.flush = R := if_pos h0
          rw [this]; exact ⟨hf, h0⟩
      refine ⟨fun q => absurd q (by simp), ?_⟩
      show Mx room ((R.fl room e).fr ++ [(R.fl room e).op ++ [e]])
      rw [hfl.1, hfl.2]
      intro i hi
      have : i + 1 < 1 := hi
      omega
    · by_cases hf : R.fits room e = true
      · have hfl : R.fl room e = R := if_pos hf
        rw [hfl]
        exact ⟨fun q => absurd q (by simp), h.mx.longer h0⟩
      · have hfl : R.fl room e = R.flush := if_neg hf
        have hfs : R.flush = { R with fr := R.fr ++ [R.op], op := [] } := if_neg h0
        rw [hfl, hfs]
        refine ⟨fun q => absurd q (by simp), ?_⟩
        show Mx room ((R.fr ++ [R.op]) ++ [[] ++ [e]])
        refine h.mx.snoc ?_
        intro e' he' hq
        obtain rfl : e = e' := by simpa using he'
        obtain ⟨k1, k2, k3⟩ := hi.op h0
        obtain ⟨q1, q2⟩ := hq
        have q3 := ((lOk_snoc h0).1 q1).2.1
        rw [k2, evErr_ok] at q3
        rw [lB_snoc h0, k2, List.length_append] at q2
        exact hf (by unfold Rcd.fits; simp only [Bool.and_eq_true, decide_eq_true_eq]; exact ⟨q3.2, q2⟩)
  · have hp : R.put room e = R := if_pos he
    rw [hp]; exact h
theorem puts_long (room : Nat) (hr : 20 ≤ room) (z : Nat → Ev) : ∀ n, (∀ i, i < n → (z i).Wf) → (putsR room z n).Inv room ∧ (putsR room z n).Long room
  | 0, _ => ⟨rcd0_inv room, rcd0_long room⟩
  | n + 1, h => by
    obtain ⟨h1, h2⟩ := puts_long room hr z n fun i hi => h i (by omega)
    exact ⟨h1.put (h n (by omega)) hr, h2.put h1 (z n)⟩
theorem Rcd.Long.flush {room : Nat} {R : Rcd} (h : R.Long room) : Mx room R.flush.fr := by
  unfold Rcd.flush
  split
  · rename_i h0
    rw [h.emp h0]
    intro i hi
    exact absurd hi (Nat.not_lt_zero _)
  · exact h.mx
theorem rall_any (w : World) (T : ByteArray) (hs : T.size ≤ 1000000000) : Calls Try.prog 24 #[.string T] w fun x w' => ∃ ao cap its, x = .returned (.slice ao its.length cap) ∧ its.map Itm.p = (hfin T true hs0).its ∧ ItIn w' w.heap.size (.slice ao its.length cap) its ∧ Below w.heap.size w w' := by
  have hB := (Below.refl w.heap.size w).alloc (Nat.le_refl _) (.cells #[.string T, .int .i64 0, .int .u64 0, .int .u64 0, .int .u64 0, .bool true] 85)
  have h0 := heap_alloc_new w (.cells #[.string T, .int .i64 0, .int .u64 0, .int .u64 0, .int .u64 0, .bool true] 85)
  have hgo := rgo_any (w.alloc (.cells #[.string T, .int .i64 0, .int .u64 0, .int .u64 0, .int .u64 0, .bool true] 85)) w.heap.size T 0 0 0 0 true h0 (Nat.zero_le _) hs (by decide) (by decide) (Nat.le_refl _)
  have HB := Lib.hid hB
  clear hB h0
  go_enter Try.func24, Try.ntmps24
  go_wp2_with fail
  refine hgo.mono ?_
  rintro a w1 ⟨ao, cap, its, rfl, h1, h2, h3, on⟩
  go_wp2_with fail
  go_ret
  have hb := HB.out.trans (on.below HB.out.size fun i hi (q : i = w.heap.size) => by omega)
  exact ⟨ao, cap, its, rfl, h1, h2.mono (by simp), hb⟩
end Go.Proofs.Ytbfipgeoecbpaaa
