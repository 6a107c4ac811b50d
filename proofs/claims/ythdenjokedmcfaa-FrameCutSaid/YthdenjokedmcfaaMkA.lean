/- A builder's copyCheck, WriteString, String, kept to its own address. No condition but those that each names. -/
import Derived.Test.YthdenjokedmcfaaShelf
import Derived.Test.YthdenjokedmcfaaCur
import Derived.Shelf.Strings.BuilderF
import Derived.Lib.FrozenHead
import Derived.Deep.LoopGhost
import Derived.Deep.DeepCutAuto
namespace Go.Proofs.Ythdenjokedmcfaa
open Go.RowKit
set_option maxRecDepth 100000
theorem copyCheck_used {B b : Nat} {bs : List Value} {w : World} (h : Lib.BuilderAtF 149 5 B b (.pointer (some ⟨b, 0, none⟩)) bs w) :
    Calls Try.prog 108 #[.pointer (some ⟨b, 0, none⟩)] w fun e w' => e = .returned (.tuple #[]) ∧ w = w' := by
  have c0 := h.cell0
  go_enter Try.func108, Try.ntmps108
  go_wp2
  rw [Lib.run_neq_ptr_same w _ Try.underlying147 ((Option.some_get (by kernel_rfl : (Try.prog.info? 149).isSome = true)).symm)]
  go_wp2
  go_end0
  exact ⟨rfl, rfl⟩
set_option maxHeartbeats 1000000 in
theorem bstr_any {B b : Nat} {bs : List Value} {w : World} (h : Lib.BuilderAtF 149 5 B b (.pointer (some ⟨b, 0, none⟩)) bs w) (s : ByteArray) (hlen : bs.length + s.size ≤ 140737488355328) (hBw : B ≤ w.heap.size) :
    Calls Try.prog 86 #[.pointer (some ⟨b, 0, none⟩), .string s] w fun e w' => e = .returned (.tuple #[.int .i64 s.size, .nilIface]) ∧ (Lib.BuilderAtF 149 5 B b (.pointer (some ⟨b, 0, none⟩)) (bs ++ Lib.strCells s) w' ∧ Below B w w') := by
  have hcc := copyCheck_used h
  obtain ⟨hB, v, hbk, hown, hne⟩ := h
  obtain ⟨i0, hi, hz0, hz1, hz2⟩ := info_parts info_u8
  have c1 : w.cell? ⟨b, 1, none⟩ = some v := by rw [cell_blk hbk]; rfl
  have hlt := blk_lt hbk
  go_enter Try.func86, Try.ntmps86
  go_wp2_with fail
  refine hcc.mono ?_
  rintro e w1 ⟨rfl, rfl⟩
  go_wp2_with (at_builtin; (refine Lib.wpList_append_own_stringF _ rfl _ _ 82 9 rfl B 5 i0 ul_bytes ul_string hi hz0 hz1 hz2 v _ _ rfl hown s rfl (by unfold maxLen; omega) hlen hBw ?_); intro v' w2 hown' hg hnil; have hb2 := (hg.block b hlt (fun x => hne x.symm)).trans hbk; have d1 : w2.cell? ⟨b, 1, none⟩ = some v := (by rw [cell_blk hb2]; rfl); have f1 := frozen_blk hb2 1; obtain ⟨ao, n', cap, rfl⟩ : ∃ ao n' cap, v' = .slice ao n' cap := (by rcases hown'.2 with ⟨hv, _⟩ | ⟨g, cap, cur, fz, hv, _⟩; exact ⟨_, _, _, hv⟩; exact ⟨_, _, _, hv⟩))
  go_ret2
  refine ⟨rfl, ?_, ?_⟩
  · exact Lib.BuilderAtF.put (T := 149) (e := 5) hB hb2 (bs' := bs ++ Lib.strCells s) (by simpa [Lib.strCells_length] using hown') (by decide)
  · exact ((Below.refl B w).grown hg hBw (fun k hk => (hown.lt k hk).1)).setCell (p := ⟨b, 1, none⟩) hB _
set_option maxHeartbeats 2000000 in
theorem bString_any {B b : Nat} {l : List UInt8} {w : World} (h : Lib.BuilderAtF 149 5 B b (.pointer (some ⟨b, 0, none⟩)) (Lib.byteCells l) w) (h0 : l ≠ []) :
    Calls Try.prog 88 #[.pointer (some ⟨b, 0, none⟩)] w fun e w' => e = .returned (.string ⟨l.toArray⟩) ∧ (Lib.BuilderAtF 149 5 B b (.pointer (some ⟨b, 0, none⟩)) (Lib.byteCells l) w' ∧ Below B w w') := by
  have hAt := h
  obtain ⟨hB, v, hbk, hown, hne⟩ := h
  have hl0 : l.length ≠ 0 := by simpa using h0
  rw [Lib.byteCells_length] at hown
  have hform : ∃ g cap cur fz, v = .slice (some ⟨g, 0, none⟩) l.length cap ∧ B ≤ g ∧ w.heap[g]? = some (.cells cur 5 fz) ∧ l.length ≤ cap ∧ cap ≤ maxLen ∧ cur.size = cap * 1 := by
    rcases hown.2 with ⟨_, hz⟩ | ⟨g, cap, cur, fz, hv, r1, r2, r3, r4, r5, r6, _⟩
    · exact absurd hz hl0
    · exact ⟨g, cap, cur, fz, hv, r1, r2, by omega, by omega, by omega⟩
  obtain ⟨g, cap, cur, fz, rfl, hbg, hg, hnc, hcm, hcs⟩ := hform
  have c1 : w.drew.cell? ⟨b, 1, none⟩ = some (.slice (some ⟨g, 0, none⟩) l.length cap) := by
    have : w.drew.heap[b]? = some (.cells #[.pointer (some ⟨b, 0, none⟩), .slice (some ⟨g, 0, none⟩) l.length cap] 149 (0, 0)) := hbk
    rw [cell_blk this]; rfl
  have hSD : (Builtin.unsafeSliceData_ #[82] 177 #[.slice (some ⟨g, 0, none⟩) l.length cap]).run Try.prog w.drew = .ok (.pointer (some ⟨g, 0, none⟩)) w.drew :=
    Lib.run_unsafeSliceData_row _ _ _ _ _ _ (by omega)
  have hcb : Try.prog.cellsOf 5 = 1 := by kernel_rfl
  have hUS : (Builtin.unsafeString_ #[177, 3] 9 #[.pointer (some ⟨g, 0, none⟩), .int .i64 l.length]).run Try.prog w.drew = .ok (.string ⟨l.toArray⟩) (w.drew.freeze ⟨g, 0, none⟩ l.length) := by
    refine Lib.run_unsafeString_row w.drew 177 3 9 5 Try.underlying177 hcb g cur.size (by have hg' : w.drew.heap[g]? = some (.cells cur 5 fz) := hg; simp [World.shape?, hg']) l h0 (by omega) (by unfold maxLen at hcm; omega) ?_
    intro j x hx
    exact hown.cells (g := g) rfl j (.int .u8 x.toNat) (by simp [Lib.byteCells, hx])
  have hfz : Lib.BuilderAtF 149 5 B b (.pointer (some ⟨b, 0, none⟩)) (Lib.byteCells l) (w.drew.freeze ⟨g, 0, none⟩ l.length) := by
    have := (hAt.drew).froze (g := g) (cap := cap) (by rw [Lib.byteCells_length]; exact c1)
    rw [Lib.byteCells_length] at this
    exact this
  have hbel := Lib.below_freeze (Below.drew (Below.refl B w)) (p := ⟨g, 0, none⟩) hbg l.length
  clear hAt hown hbk hne hg
  have mixed : Try.prog.follows .mixedOrders = true := by kernel_rfl
  go_enter Try.func88, Try.ntmps88
  go_wp2
  go_region_o
  all_goals (go_wp2; go_ret; exact ⟨rfl, hfz, hbel⟩)
end Go.Proofs.Ythdenjokedmcfaa
