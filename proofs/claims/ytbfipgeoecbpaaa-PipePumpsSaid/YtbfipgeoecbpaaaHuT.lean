/- Contract of hunt.tell. No condition but those that it names. -/
import Derived.Test.YtbfipgeoecbpaaaHuM
import Derived.Deep.DeepCutAuto
import Derived.BigQuiet
namespace Go.Proofs.Ytbfipgeoecbpaaa
open Go.RowKit
set_option linter.unusedVariables false
set_option linter.unusedSimpArgs false
set_option maxRecDepth 20000
theorem itCells_one1 {k : Int} {a b : Nat} {sv : Value} {evs : List Ev} {ao : Option Addr} {n cap : Nat} (h : Value.slice ao n cap = sv) : ∀ u ∈ itCells [⟨k, a, b, sv, evs⟩], u.oneCell' = true := by
  subst h
  intro u hu
  simp only [itCells, Itm.cells, List.flatMap_cons, List.flatMap_nil, List.append_nil, List.mem_cons, List.not_mem_nil, or_false] at hu
  rcases hu with rfl | rfl | rfl | rfl <;> rfl
/-- Where tell stands. -/
structure TSt (w : World) (b tb F : Nat) (Y : ByteArray) (nx sk lo : Nat) (cl : Bool) (seq : Nat) (sv out : Value) (l : List Itm) (wr : World) : Prop where
  hu : IsHu wr b tb Y nx sk lo cl
  bel : Only (fun k => k = b) w wr
  fb : wr.heap[F]? = some (.cells #[.int .u32 seq, sv] 110 (0, 0))
  own : wr.ownsRow (F + 1) 49 4 out l.length (itCells l)
  lo : b < w.heap.size
  fr : w.heap.size = F
theorem TSt.below {w : World} {b tb F : Nat} {Y : ByteArray} {nx sk lo : Nat} {cl : Bool} {seq : Nat} {sv out : Value} {l : List Itm} {wr w2 : World} (h : TSt w b tb F Y nx sk lo cl seq sv out l wr) (k : Below wr.heap.size wr w2) : TSt w b tb F Y nx sk lo cl seq sv out l w2 :=
  { h with hu := h.hu.below k, bel := h.bel.trans (Only.of_below k (fun _ => False)) fun _ _ x => x.elim, fb := (k.block _ (blk_lt h.fb)).trans h.fb, own := own_below h.own k }
theorem TSt.grow {w : World} {b tb F : Nat} {Y : ByteArray} {nx sk lo : Nat} {cl : Bool} {seq : Nat} {sv out out' : Value} {l m : List Itm} {wr w2 : World} (h : TSt w b tb F Y nx sk lo cl seq sv out l wr) (hg : wr.grownBy w2 out.ownBlock) (ho : w2.ownsRow (F + 1) 49 4 out' (l.length + m.length) (itCells l ++ itCells m)) : TSt w b tb F Y nx sk lo cl seq sv out' (l ++ m) w2 :=
  have hl := h.lo
  have hf := h.fr
  have hk := fun k hk => (h.own.lt k hk).1
  { h with
    hu := h.hu.grow h.own (by omega) hg
    bel := h.bel.grown hg fun k hk' hlt => by have := hk k hk'; omega
    fb := (hg.block F (blk_lt h.fb) fun x => by have := hk F x.symm; omega).trans h.fb
    own := by rw [itCells_append, List.length_append]; exact ho }
theorem TSt.set {w : World} {b tb F : Nat} {Y : ByteArray} {nx sk lo nx2 lo2 : Nat} {cl : Bool} {seq : Nat} {sv out : Value} {l : List Itm} {wr : World} (h : TSt w b tb F Y nx sk lo cl seq sv out l wr) (j : Nat) (v : Value) (hh : IsHu (wr.setCell ⟨b, j, none⟩ v) b tb Y nx2 sk lo2 cl) : TSt w b tb F Y nx2 sk lo2 cl seq sv out l (wr.setCell ⟨b, j, none⟩ v) :=
  have hl := h.lo
  have hf := h.fr
  { h with
    hu := hh
    bel := h.bel.setCell _ _ fun _ => rfl
    fb := blk_setCell_other h.fb (show F ≠ b by omega) _
    own := own_set h.own _ _ (show b < F + 1 by omega) }
/-- What tell answers. -/
def TellPost (w : World) (b tb : Nat) (Y : ByteArray) (nx sk lo : Nat) (cl : Bool) (l : List Itm) (x : Ending) (w' : World) : Prop :=
  ∃ ao cap, x = .returned (.slice ao l.length cap) ∧ w'.ownsRow w.heap.size 49 4 (.slice ao l.length cap) l.length (itCells l) ∧ IsHu w' b tb Y nx sk lo cl ∧ Only (fun k => k = b) w w'
/-- The items. -/
def tellL (nx seq : Nat) (sv : Value) (evs : List Ev) : List Itm := (if nx < seq then [⟨2, nx, seq - nx, .slice none 0 0, []⟩] else []) ++ [⟨1, seq, 0, sv, evs⟩]
set_option maxHeartbeats 4000000 in
theorem tell_any (w : World) (b tb : Nat) (Y : ByteArray) (nx sk lo seq : Nat) (cl : Bool) (ao : Option Addr) (cap : Nat) (evs : List Ev) (hH : IsHu w b tb Y nx sk lo cl) (hseq : seq < 4294967296) (hnx : nx ≤ seq) (hlo : lo ≤ 4294967296) :
    Calls Try.prog 93 #[.pointer (some ⟨b, 0, none⟩), .agg #[.int .u32 seq, .slice ao evs.length cap]] w (TellPost w b tb Y (seq + 1) sk (lo + (seq - nx)) cl (tellL nx seq (.slice ao evs.length cap) evs)) := by
  obtain ⟨i0, hi, hz0, hz1, hz2⟩ := itm_info
  have st0 : TSt w b tb w.heap.size Y nx sk lo cl seq (.slice ao evs.length cap) (.slice none 0 0) [] (w.alloc (.cells #[.int .u32 seq, .slice ao evs.length cap] 110)) :=
    { hu := hH.below ((Below.refl w.heap.size w).alloc (Nat.le_refl _) _)
      bel := (Only.refl _ w).alloc _
      fb := heap_alloc_new w _
      own := World.ownsRow_nil _ _ _ _
      lo := blk_lt hH
      fr := rfl }
  clear hH
  go_enter Try.func93, Try.ntmps93
  go_upto_region 2 with fail
  generalize w.alloc (.cells #[.int .u32 seq, .slice ao evs.length cap] 110) = W0 at st0 ⊢
  obtain ⟨F, hF⟩ : ∃ F, F = w.heap.size := ⟨_, rfl⟩
  rw [← hF] at st0 ⊢
  have HF := Lib.hid hF
  clear hF
  obtain ⟨y0, y1, y2, y3, y4, y5⟩ := st0.hu.cells
  have f0 := cell_blk st0.fb 0
  have f1 := cell_blk st0.fb 1
  simp only [List.getElem?_toArray, List.getElem?_cons_zero, List.getElem?_cons_succ] at f0 f1
  have hw64 : IntKind.u64.wrap (seq : Int) = seq := by rw [IntKind.wrap_u64]; omega
  obtain ⟨d, hd⟩ : ∃ d : Nat, d = seq - nx := ⟨_, rfl⟩
  have hsub : IntKind.u64.wrap ((seq : Int) - nx) = (d : Int) := by rw [IntKind.wrap_u64]; omega
  have hdl : d < 4294967296 := by omega
  have hnl : nx < 4294967296 := by omega
  have hw32 : IntKind.u32.wrap (nx : Int) = nx := by rw [IntKind.wrap_u32]; omega
  have hd32 : IntKind.u32.wrap (d : Int) = d := by rw [IntKind.wrap_u32]; omega
  have hlw : IntKind.u64.wrap ((lo : Int) + d) = ((lo + d : Nat) : Int) := by rw [IntKind.wrap_u64]; omega
  have hsw : IntKind.u64.wrap ((seq : Int) + 1) = ((seq + 1 : Nat) : Int) := by rw [IntKind.wrap_u64]; omega
  have HD := Lib.hid hd
  clear hd
  go_quiet (fail)
  have st1 := st0.below (kept_drewN W0 nq)
  generalize W0.drewN nq = W1 at st1 ⊢
  clear st0 y0 y1 y2 y3 y4 y5 f0 f1
  obtain ⟨y0, y1, y2, y3, y4, y5⟩ := st1.hu.cells
  have f0 := cell_blk st1.fb 0
  have f1 := cell_blk st1.fb 1
  simp only [List.getElem?_toArray, List.getElem?_cons_zero, List.getElem?_cons_succ] at f0 f1
  have z4 := st1.hu.frozen 4
  have z2 := st1.hu.frozen 2
  by_cases hg : nx < seq
  · have hdp : (0 : Int) < (d : Int) := by have := HD.out; omega
    have HT := Lib.hid (show tellL nx seq (.slice ao evs.length cap) evs = [⟨2, nx, d, .slice none 0 0, []⟩] ++ [⟨1, seq, 0, (.slice ao evs.length cap), evs⟩] by unfold tellL; rw [if_pos hg, ← HD.out])
    have HD2 := Lib.hid (show lo + (seq - nx) = lo + d by rw [← HD.out])
    clear hg
    have hL := st1.below ((Below.refl W1.heap.size W1).alloc (Nat.le_refl _) (.cells #[.int .i64 2, .int .u32 nx, .int .u32 d, .slice none 0 0] 49))
    have hsr := src_it W1 ⟨2, nx, d, .slice none 0 0, []⟩
    have ho := hL.own
    have hb1 : F + 1 ≤ (W1.alloc (.cells #[.int .i64 2, .int .u32 nx, .int .u32 d, .slice none 0 0] 49)).heap.size := blk_lt hL.fb
    go_upto_region 5 with (at_builtin; (refine list_append rfl (.tmp 17) (.tmp 26) 45 rfl (F + 1) hb1 49 i0 _ 4 40 ul_items hi hz0 hz1 hz2 rfl (by decide) (.slice none 0 0) 0 (itCells []) rfl ho _ 1 (itCells [⟨2, nx, d, .slice none 0 0, []⟩]) rfl rfl hsr (itCells_one (w := W1) (lo := 0) (by simp; exact EvIn.nil _ _ _ _ _)) (by unfold maxLen; omega) (by omega) ?_); intro ao2 cap2 w2 hown' hg2 hat; have st2 := hL.grow (m := [⟨2, nx, d, .slice none 0 0, []⟩]) hg2 hown'; clear hat hg2 hown')
    clear hL hsr ho hb1 st1 y0 y1 y2 y3 y4 y5 f0 f1 z4 z2
    obtain ⟨y0, y1, y2, y3, y4, y5⟩ := st2.hu.cells
    have f0 := cell_blk st2.fb 0
    have f1 := cell_blk st2.fb 1
    simp only [List.getElem?_toArray, List.getElem?_cons_zero, List.getElem?_cons_succ] at f0 f1
    have z4 := st2.hu.frozen 4
    have z2 := st2.hu.frozen 2
    go_upto_region 7 with fail
    have st3 := (st2.set 4 _ (st2.hu.set4 (lo + d))).set 2 _ ((st2.hu.set4 (lo + d)).set2 (seq + 1))
    rw [show ((lo : Int) + d) = ((lo + d : Nat) : Int) by omega, show ((seq : Int) + 1) = ((seq + 1 : Nat) : Int) by omega]
    generalize (w2.setCell ⟨b, 4, none⟩ (.int .u64 ((lo + d : Nat) : Int))).setCell ⟨b, 2, none⟩ (.int .u64 ((seq + 1 : Nat) : Int)) = W3 at st3 ⊢
    clear st2 y0 y1 y2 y3 y4 y5 f0 f1 z4 z2
    have f0 := cell_blk st3.fb 0
    have f1 := cell_blk st3.fb 1
    simp only [List.getElem?_toArray, List.getElem?_cons_zero, List.getElem?_cons_succ] at f0 f1
    have hL := st3.below ((Below.refl W3.heap.size W3).alloc (Nat.le_refl _) (.cells #[.int .i64 1, .int .u32 seq, .int .u32 0, .slice ao evs.length cap] 49))
    have hsr := src_it W3 ⟨1, seq, 0, (.slice ao evs.length cap), evs⟩
    have ho := hL.own
    have hb1 : F + 1 ≤ (W3.alloc (.cells #[.int .i64 1, .int .u32 seq, .int .u32 0, .slice ao evs.length cap] 49)).heap.size := blk_lt hL.fb
    go_wp2_with (at_builtin; (refine list_append rfl (.tmp 43) (.tmp 49) 45 rfl (F + 1) hb1 49 i0 _ 4 40 ul_items hi hz0 hz1 hz2 rfl (by decide) (.slice ao2 1 cap2) 1 (itCells [⟨2, nx, d, .slice none 0 0, []⟩]) rfl ho _ 1 (itCells [⟨1, seq, 0, (.slice ao evs.length cap), evs⟩]) rfl rfl hsr (itCells_one1 rfl) (by unfold maxLen; omega) (by omega) ?_); intro ao3 cap3 w3 hown' hg3 hat; have st4 := hL.grow (m := [⟨1, seq, 0, (.slice ao evs.length cap), evs⟩]) hg3 hown'; clear hat hg3 hown')
    go_ret
    refine ⟨ao3, cap3, ?_, ?_, ?_, st4.bel⟩
    · rw [HT.out]; rfl
    · have h9 := World.ownsRow.mono st4.own (show w.heap.size ≤ F + 1 by have := HF.out; omega)
      rw [HT.out]; exact h9
    · have h9 := st4.hu
      rw [HD2.out]; exact h9
  · have hdp : ¬ (0 : Int) < (d : Int) := by have := HD.out; omega
    have HT := Lib.hid (show tellL nx seq (.slice ao evs.length cap) evs = [] ++ [⟨1, seq, 0, (.slice ao evs.length cap), evs⟩] by unfold tellL; rw [if_neg hg])
    have HD2 := Lib.hid (show lo + (seq - nx) = lo by omega)
    clear hg
    go_upto_region 7 with fail
    have st3 := st1.set 2 _ (st1.hu.set2 (seq + 1))
    rw [show ((seq : Int) + 1) = ((seq + 1 : Nat) : Int) by omega]
    generalize W1.setCell ⟨b, 2, none⟩ (.int .u64 ((seq + 1 : Nat) : Int)) = W3 at st3 ⊢
    clear st1 y0 y1 y2 y3 y4 y5 f0 f1 z4 z2
    have f0 := cell_blk st3.fb 0
    have f1 := cell_blk st3.fb 1
    simp only [List.getElem?_toArray, List.getElem?_cons_zero, List.getElem?_cons_succ] at f0 f1
    have hL := st3.below ((Below.refl W3.heap.size W3).alloc (Nat.le_refl _) (.cells #[.int .i64 1, .int .u32 seq, .int .u32 0, .slice ao evs.length cap] 49))
    have hsr := src_it W3 ⟨1, seq, 0, (.slice ao evs.length cap), evs⟩
    have ho := hL.own
    have hb1 : F + 1 ≤ (W3.alloc (.cells #[.int .i64 1, .int .u32 seq, .int .u32 0, .slice ao evs.length cap] 49)).heap.size := blk_lt hL.fb
    go_wp2_with (at_builtin; (refine list_append rfl (.tmp 43) (.tmp 49) 45 rfl (F + 1) hb1 49 i0 _ 4 40 ul_items hi hz0 hz1 hz2 rfl (by decide) (.slice none 0 0) 0 (itCells []) rfl ho _ 1 (itCells [⟨1, seq, 0, (.slice ao evs.length cap), evs⟩]) rfl rfl hsr (itCells_one1 rfl) (by unfold maxLen; omega) (by omega) ?_); intro ao3 cap3 w3 hown' hg3 hat; have st4 := hL.grow (m := [⟨1, seq, 0, (.slice ao evs.length cap), evs⟩]) hg3 hown'; clear hat hg3 hown')
    go_ret
    refine ⟨ao3, cap3, ?_, ?_, ?_, st4.bel⟩
    · rw [HT.out]; rfl
    · have h9 := World.ownsRow.mono st4.own (show w.heap.size ≤ F + 1 by have := HF.out; omega)
      rw [HT.out]; exact h9
    · have h9 := st4.hu
      rw [HD2.out]; exact h9
end Go.Proofs.Ytbfipgeoecbpaaa
