/- The document's recorder (ref23): Close, Texts. No condition but those that each names. -/
import Derived.Test.YtbfipgeoecbpaaaRcX
import Derived.Test.YtbfipgeoecbpaaaPipeR
import Derived.Deep.LoopGhost
namespace Go.Proofs.Ytbfipgeoecbpaaa
open Go.RowKit
set_option linter.unusedVariables false
set_option linter.unusedSimpArgs false
set_option maxRecDepth 20000
section
variable {w w' : World} {m room : Nat} {R : Rcd} {U : Nat → Prop}
theorem Md.setCl (h : Md w m room R U) : Md (w.setCell ⟨m, 9, none⟩ (.bool true)) m room { R with cl := true } U ∧ Only U w (w.setCell ⟨m, 9, none⟩ (.bool true)) := by
  obtain ⟨fv, ov, fl, b, he⟩ := h.b
  have o : Only U w (w.setCell ⟨m, 9, none⟩ (.bool true)) := (Only.refl U w).setCell ⟨m, 9, none⟩ (.bool true) fun _ => b.um
  exact ⟨⟨⟨fv, ov, fl, b.setCl true, he⟩, fun k hk => Nat.lt_of_lt_of_le (h.foot k hk) o.size⟩, o⟩
theorem Md.clCell (h : Md w m room R U) : w.frozen? ⟨m, 9, none⟩ = false ∧ w.cell? ⟨m, 9, none⟩ = some (.bool R.cl) := by
  obtain ⟨fv, ov, fl, b, he⟩ := h.b
  have y := b.cells 9
  simp only [mdCells, List.getElem?_toArray, List.getElem?_cons_succ, List.getElem?_cons_zero] at y
  exact ⟨b.frozen 9, y⟩
theorem Md.lens (h : Md w m room R U) : ∃ fa fc oa oc, w.cell? ⟨m, 1, none⟩ = some (.slice fa R.fr.length fc) ∧ w.cell? ⟨m, 2, none⟩ = some (.slice oa R.op.length oc) := by
  obtain ⟨fv, ov, fl, b, he⟩ := h.b
  obtain ⟨fa, fc, rfl⟩ := owns_form b.fo
  obtain ⟨oa, oc, rfl⟩ := owns_form b.oo
  have y1 := b.cells 1
  have y2 := b.cells 2
  simp only [mdCells, List.getElem?_toArray, List.getElem?_cons_succ, List.getElem?_cons_zero] at y1 y2
  have hl : fl.length = R.fr.length := by rw [← he, List.length_map]
  rw [hl] at y1
  exact ⟨fa, fc, oa, oc, y1, y2⟩
set_option maxHeartbeats 2000000 in
theorem mclose_any (h : Md w m room R U) (hinv : R.Inv room) (hr : 20 ≤ room ∧ room ≤ 120) (hn : R.fr.length ≤ 3000) (cy ct : Nat) (h1 : cy < 18446744073709551616) (h2 : ct < 18446744073709551616) :
    Calls Try.prog 30 #[.pointer (some ⟨m, 0, none⟩), .int .u64 cy, .int .u64 ct] w fun a w' => a = .returned (.int .i64 (R.err (closeEv cy ct))) ∧ Md w' m room (R.close room cy ct) (grow U w w') ∧ Only U w w' := by
  have hput := mput_any h hinv hr (by omega) (closeEv cy ct) (closeEv_wf h1 h2)
  have hl1 : (R.put room (closeEv cy ct)).fr.length ≤ 3001 := by
    unfold Rcd.put
    split
    · omega
    · show (R.fl room (closeEv cy ct)).fr.length ≤ _
      unfold Rcd.fl
      split
      · omega
      · unfold Rcd.flush
        split
        · omega
        · show (R.fr ++ [R.op]).length ≤ _
          rw [List.length_append]; simp; omega
  obtain ⟨E, hE⟩ : ∃ E, E = R.err (closeEv cy ct) := ⟨_, rfl⟩
  have HE := Lib.hid hE
  rw [← hE] at hput
  unfold Ev.val at hput
  have hput : Calls Try.prog 28 #[.pointer (some ⟨m, 0, none⟩), .agg #[.int .i64 24, .int .u64 cy, .int .u64 ct, .int .u32 0, .int .u32 0, .int .u32 0]] w fun a w' => a = .returned (.int .i64 E) ∧ Md w' m room (R.put room (closeEv cy ct)) (grow U w w') ∧ Only U w w' := hput
  clear hE
  go_enter Try.func30, Try.ntmps30
  go_upto_region 2 with (go_at_call 28; (refine hput.mono ?_); rintro a w1 ⟨rfl, P1, on1⟩)
  clear hput
  by_cases he : E = 0
  · subst he
    have hcl : R.close room cy ct = { (R.put room (closeEv cy ct)).flush with cl := true } := if_neg (fun q => q HE.out.symm)
    have hfl := mflush_any P1 (by omega)
    have HP := Lib.hid (And.intro hcl (And.intro on1 h))
    clear hcl on1 h P1
    go_upto_region 5 with (go_at_call 29; (with_reducible refine hfl.mono ?_); rintro a w2 ⟨rfl, P2, on2⟩)
    obtain ⟨z1, z2⟩ := P2.clCell
    go_wp2_with fail
    obtain ⟨P3, on3⟩ := P2.setCl
    obtain ⟨hcl, on1, h⟩ := HP.out
    have s12 := on2.size
    have s01 := on1.size
    have s23 := on3.size
    go_ret
    have on12 : Only U w w2 := on1.trans on2 fun k hk q => by
      rcases q with q | q
      · exact q
      · omega
    have on123 : Only U w _ := on12.trans on3 fun k hk q => by
      have := grow_grow s01 s12 k q
      rcases this with q | q
      · exact q
      · omega
    refine ⟨by rw [← HE.out]; rfl, ?_, on123⟩
    rw [hcl]
    refine P3.mono (fun k hk => ?_) (grow_lt h.foot on123.size)
    have := grow_grow s01 s12 k hk
    rcases this with q | q
    · exact .inl q
    · exact .inr ⟨q.1, Nat.lt_of_lt_of_le q.2 s23⟩
  · have hz : (E != 0) = true := by simp [he]
    have hcl : R.close room cy ct = R := if_pos (fun q => he (HE.out.trans q))
    have hpt : R.put room (closeEv cy ct) = R := if_pos (fun q => he (HE.out.trans q))
    have HP := Lib.hid (And.intro hcl (And.intro hpt (And.intro on1 P1)))
    clear hcl hpt on1 P1
    go_wp2_with fail
    obtain ⟨hcl, hpt, on1, P1⟩ := HP.out
    go_ret
    refine ⟨by rw [← HE.out]; rfl, ?_, on1⟩
    rw [hcl]; rw [hpt] at P1; exact P1
end
/-! ### Texts -/
theorem fiCells_at : ∀ (t : List FrI) (k i : Nat), i < t.length → (fiCells k t)[i * 2]? = some (.int .u32 ((k + i : Nat) : Int)) ∧ ∃ x, t[i]? = some x ∧ (fiCells k t)[i * 2 + 1]? = some x.sv
  | [], _, i, h => absurd h (Nat.not_lt_zero _)
  | x :: t, k, 0, _ => ⟨rfl, x, rfl, rfl⟩
  | x :: t, k, i + 1, h => by
    obtain ⟨h1, y, h2, h3⟩ := fiCells_at t (k + 1) i (by simpa using h)
    have e1 : (i + 1) * 2 = i * 2 + 1 + 1 := by omega
    have e2 : (i + 1) * 2 + 1 = i * 2 + 1 + 1 + 1 := by omega
    refine ⟨?_, y, by simpa using h2, ?_⟩
    · rw [e1, fiCells, List.getElem?_cons_succ, List.getElem?_cons_succ, h1, show k + 1 + i = k + (i + 1) by omega]
    · rw [e2, fiCells, List.getElem?_cons_succ, List.getElem?_cons_succ, h3]
/-- The texts of frames. -/
def txB (fr : List (List Ev)) (i : Nat) : ByteArray := ⟨(frT i (fr.getD i [])).toArray⟩
def TxR (w : World) (fr : List (List Ev)) (g : Nat) (i out : Value) (wr : World) : Prop :=
  ∃ k : Nat, i = .int .i64 k ∧ k ≤ fr.length ∧ wr.ownsRow w.heap.size 9 1 out k (sv ((List.range k).map (txB fr))) ∧ Below w.heap.size w wr ∧ fr.length - k ≤ g
set_option maxHeartbeats 4000000 in
theorem mtexts_any {w : World} {m room : Nat} {R : Rcd} {U : Nat → Prop} (h : Md w m room R U) (hinv : R.Inv room) (hr : room ≤ 120) (hn : R.fr.length ≤ 3000) :
    Calls Try.prog 31 #[.pointer (some ⟨m, 0, none⟩)] w fun a w' => ∃ ao cap, a = .returned (.slice ao R.fr.length cap) ∧ w'.ownsRow w.heap.size 9 1 (.slice ao R.fr.length cap) R.fr.length (sv ((List.range R.fr.length).map (txB R.fr))) ∧ Below w.heap.size w w' := by
  obtain ⟨fv, ov, fl, b, he⟩ := h.b
  obtain ⟨fa, fc, rfl⟩ := owns_form b.fo
  have hfll : fl.length = R.fr.length := by rw [← he, List.length_map]
  obtain ⟨fr, hfr⟩ : ∃ fr, fr = R.fr := ⟨_, rfl⟩
  have hfi := hinv.fr
  rw [← hfr] at hfll hfi hn he ⊢
  obtain ⟨i0, hi, hz0, hz1, hz2⟩ := info_partsS info_str
  have hlit := World.ownsRow_lit (e := 9) (base := w.heap.size) (size := 1) w #[] 0 (Nat.le_refl _) (by decide) rfl
  have hal := (Below.refl w.heap.size w).alloc (Nat.le_refl _) (.cells #[] 9)
  have HB := Lib.hid (And.intro b (And.intro he (And.intro hfll hfi)))
  clear h hfr b he hfi
  go_enter Try.func31, Try.ntmps31
  go_wp2_with fail
  go_loopg [4, 3] (fr.length) (fun g i out wr => TxR w fr g i out wr)
  case atStart => exact ⟨0, rfl, Nat.zero_le _, hlit, hal, by omega⟩
  case round =>
    obtain ⟨k, rfl, hk, hown, hbel, hg⟩ := hrel
    obtain ⟨ao, cp, rfl⟩ := owns_form hown
    have b := HB.out.1.below hbel
    have y1 := b.cells 1
    simp only [mdCells, List.getElem?_toArray, List.getElem?_cons_succ, List.getElem?_cons_zero] at y1
    rw [hfll] at y1
    by_cases hlt : k < fr.length
    · have hlt' : (k : Int) < fr.length := by omega
      have hlt2 : k < fl.length := by omega
      obtain ⟨q1, x, q2, q3⟩ := fiCells_at fl 0 k hlt2
      rw [Nat.zero_add] at q1
      have hx : x ∈ fl := List.mem_of_getElem? q2
      obtain ⟨⟨xa, xc, hsv⟩, hxo, _⟩ := b.fi x hx
      have hxe : x.evs = fr.getD k [] := by
        rw [← HB.out.2.1, List.getD_eq_getElem?_getD, List.getElem?_map, q2]; rfl
      obtain ⟨F, hF⟩ : ∃ F, F = fr.getD k [] := ⟨_, rfl⟩
      rw [hxe, ← hF] at hsv hxo
      rw [hsv] at hxo q3
      obtain ⟨f1, f2, f3⟩ := HB.out.2.2.2 F (by rw [hF]; rw [List.getD_eq_getElem?_getD, List.getElem?_eq_getElem hlt]; exact List.getElem_mem hlt)
      obtain ⟨g0, hg0⟩ : ∃ g0, fa = some ⟨g0, 0, none⟩ := by
        rcases b.fo.2 with ⟨h1, _⟩ | ⟨g0, cap, cur, h1, _⟩
        · simp only [Value.slice.injEq] at h1; omega
        · simp only [Value.slice.injEq] at h1; exact ⟨g0, h1.1⟩
      subst hg0
      have d0 := b.fo.cells (g := g0) rfl _ _ q1
      have d1 := b.fo.cells (g := g0) rfl _ _ q3
      rw [Go.WideShapes.add_plain] at d0 d1
      rw [Nat.zero_add] at d0 d1
      have hpr := rfprint_any wr k (by omega) xa F.length xc (fun i => F.getD i default) (slArgN_own hxo) (lOk_wf f1) (by
        have h1 : F.length ≤ (lB F).length := by
          have := op_le (room := room) (R := ⟨[], F, F.getLastD default, false⟩) ⟨fun _ => ⟨f1, rfl, f3⟩, (by
            have := lOk_wf f1 (F.length - 1) (by have := List.length_pos_iff.2 f2; omega)
            rw [List.getLastD_eq_getLast?, List.getLast?_eq_getElem?]
            rw [List.getD_eq_getElem?_getD] at this
            exact this), fun g hg => by cases hg⟩
          exact this
        omega)
      obtain ⟨S, hS⟩ : ∃ S : ByteArray, S = ⟨(frS k (fun i => F.getD i default) F.length).toArray⟩ := ⟨_, rfl⟩
      obtain ⟨E, hE⟩ : ∃ E : Int, E = frE (fun i => F.getD i default) F.length := ⟨_, rfl⟩
      rw [← hS, ← hE] at hpr
      have hST : S = txB fr k := by rw [hS, hF]; rfl
      have HS := Lib.hid hST
      clear hS hE hST hsv hxe q1 q2 q3 hxo f1 f2 f3 b hF
      go_upto_region 6 with ((go_at_call 63; (refine hpr.mono ?_); rintro a w5 ⟨rfl, hk5⟩))
      have hal5 := (Below.refl w5.heap.size w5).alloc (Nat.le_refl _) (.cells #[.string S] 9)
      have hown5 := own_below (own_below hown hk5) hal5
      have hsr := src_str S (heap_alloc_new w5 (.cells #[.string S] 9))
      have hbel5 := hbel.trans (hk5.mono hbel.size)
      have hbs := hbel5.size
      have hbel6 := hbel5.trans (hal5.mono hbs)
      go_wp2_with (at_builtin; (refine list_append rfl (.tmp 28) (.tmp 30) 62 rfl w.heap.size (by simp; omega) 9 i0 _ 1 16 ul_strs hi hz0 hz1 hz2 rfl (by decide) (.slice ao k cp) k (sv ((List.range k).map (txB fr))) rfl hown5 _ 1 (sv [S]) rfl rfl hsr (sv_one _) (by unfold maxLen; omega) (by omega) ?_); intro ao8 cp8 w8 hown8 hg8 hat8; have hbel8 := below_append hbel6 hown5 hg8 (by simp; omega); clear hat8 hg8)
      obtain ⟨gg, rfl⟩ : ∃ gg, gk = gg + 1 := ⟨gk - 1, by omega⟩
      go_roundg gg
      case measure => omega
      case rel =>
        refine ⟨k + 1, by go_num, by omega, ?_, hbel8, by omega⟩
        rw [List.range_succ, List.map_append]
        have e1 : sv ((List.range k).map (txB fr) ++ [k].map (txB fr)) = sv ((List.range k).map (txB fr)) ++ sv [S] := by rw [HS.out]; simp [sv]
        rw [e1]
        exact hown8
    · have hlt' : ¬ (k : Int) < fr.length := by omega
      obtain rfl : k = fr.length := by omega
      go_wp2_with fail
      go_ret
      exact ⟨ao, cp, rfl, hown, hbel⟩
end Go.Proofs.Ytbfipgeoecbpaaa
