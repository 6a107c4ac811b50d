/- awake of layer 11's laws answers true. Conditions: the library's variables' data. -/
import Derived.Test.YtghfkpddkmaflaaDoorKe
import Derived.Test.YtghfkpddkmaflaaDoorKc
namespace Go.Proofs.YtghfkpddkmaflaaDoor
open Go Go.RowKit
set_option linter.unusedVariables false
set_option linter.unusedSimpArgs false
set_option maxRecDepth 20000
theorem d0 : Lib.decDigits (Int.toNat 0) = [48] := Lib.decDigits_one (by decide)
theorem d1 : Lib.decDigits (Int.toNat 1) = [49] := Lib.decDigits_one (by decide)
theorem d2 : Lib.decDigits (Int.toNat 2) = [50] := Lib.decDigits_one (by decide)
theorem d3 : Lib.decDigits (Int.toNat 3) = [51] := Lib.decDigits_one (by decide)
theorem k0 : Lib.decDigits 0 = [48] := Lib.decDigits_one (by decide)
theorem k5 : Lib.decDigits 5 = [53] := Lib.decDigits_one (by decide)
def iS : Ins := ⟨27, 1, 2, 3, 2, 0⟩
def iP : Ins := ⟨34, 0, 0, 1, 0, 0⟩
def iW : Ins := ⟨20, 0, 0, 0, 0, 5⟩
def iH : Ins := ⟨37, 0, 0, 0, 0, 0⟩
theorem lS : lin iS = [115, 101, 110, 100, 32, 114, 49, 32, 114, 50, 32, 116, 105, 109, 101, 100, 32, 114, 51, 32, 48] := by
  unfold lin linW rgL iS
  simp only [d1, d2, d3, k0]
  decide +kernel
theorem lP : lin iP = [115, 108, 101, 101, 112, 32, 114, 48, 32, 114, 49] := by
  unfold lin linW rgL iP
  simp only [d0, d1, k0]
  decide +kernel
theorem lW : lin iW = [119, 111, 114, 107, 32, 53] := by
  unfold lin linW rgL iW
  simp only [d0, k5]
  decide +kernel
theorem lH : lin iH = [104, 97, 108, 116] := by
  unfold lin linW rgL iH
  simp only [d0, k0]
  decide +kernel
theorem wfS : iS.Wf := ⟨by decide, by decide, by decide, by decide, by decide, by decide⟩
theorem wfP : iP.Wf := ⟨by decide, by decide, by decide, by decide, by decide, by decide⟩
theorem wfW : iW.Wf := ⟨by decide, by decide, by decide, by decide, by decide, by decide⟩
theorem wfH : iH.Wf := ⟨by decide, by decide, by decide, by decide, by decide, by decide⟩
theorem cS : iS.chk = 0 := by decide +kernel
theorem cP : iP.chk = 0 := by decide +kernel
theorem cW : iW.chk = 0 := by decide +kernel
theorem cH : iH.chk = 0 := by decide +kernel
theorem awP : ins [115, 108, 101, 101, 112, 32, 114, 48, 32, 114, 49] = (iP, 0) := by rw [← lP]; exact ins_lin wfP cP
theorem awW : ins [119, 111, 114, 107, 32, 53] = (iW, 0) := by rw [← lW]; exact ins_lin wfW cW
theorem awH : ins [104, 97, 108, 116] = (iH, 0) := by rw [← lH]; exact ins_lin wfH cH
theorem awO : rdT [119, 111, 114, 107, 32, 53, 10, 104, 97, 108, 116] = ([], 2, 3) := by
  have hs : spl [119, 111, 114, 107, 32, 53, 10, 104, 97, 108, 116] = ([[119, 111, 114, 107, 32, 53]], [104, 97, 108, 116]) := by decide +kernel
  unfold rdT
  rw [hs]
  show rdP [[119, 111, 114, 107, 32, 53]] [104, 97, 108, 116] 0 = _
  rw [rdP, if_neg (by decide), awW]
  rfl
theorem awA : rdT [119, 111, 114, 107, 32, 53, 10, 104, 97, 108, 116, 10] = ([iW, iH], 0, 0) := by
  have hs : spl [119, 111, 114, 107, 32, 53, 10, 104, 97, 108, 116, 10] = ([[119, 111, 114, 107, 32, 53], [104, 97, 108, 116]], []) := by decide +kernel
  unfold rdT
  rw [hs]
  show rdP [[119, 111, 114, 107, 32, 53], [104, 97, 108, 116]] [] 0 = _
  have h2 : rdP [[104, 97, 108, 116]] [] (0 + 1) = ([iH], 0, 0) := by
    rw [rdP, if_neg (by decide), awH]
    rfl
  rw [rdP, if_neg (by decide), awW, h2]
  rfl
set_option maxHeartbeats 4000000 in
theorem awake11_any (w : World) (g : Gl w) : Calls Tryd.prog 9 #[] w fun e w' => e = .returned (.bool true) ∧ Below w.heap.size w w' := by
  have t1 : ∀ x, Gl x → Calls Tryd.prog 10 #[.agg #[.int .i64 27, .int .i64 1, .int .i64 2, .int .i64 3, .int .i64 2, .int .u32 0]] x fun e w' => e = .returned (.tuple #[.string ⟨#[115, 101, 110, 100, 32, 114, 49, 32, 114, 50, 32, 116, 105, 109, 101, 100, 32, 114, 51, 32, 48]⟩, .int .i64 0]) ∧ Below x.heap.size x w' :=
    fun x gx => (lline_any iS wfS x gx).mono fun e w' h => ⟨h.1.trans (by unfold lnB; rw [cS, if_pos rfl, lS]), h.2⟩
  have p1 : ∀ x, Gl x → Calls Tryd.prog 13 #[.string ⟨#[115, 108, 101, 101, 112, 32, 114, 48, 32, 114, 49]⟩] x fun e w' => e = .returned (.tuple #[.agg #[.int .i64 34, .int .i64 0, .int .i64 0, .int .i64 1, .int .i64 0, .int .u32 0], .int .i64 0]) ∧ Below x.heap.size x w' :=
    fun x gx => (lparse_any ⟨#[115, 108, 101, 101, 112, 32, 114, 48, 32, 114, 49]⟩ (by decide) x gx).mono fun e w' h => ⟨h.1.trans (by rw [awP]; rfl), h.2⟩
  have r1 : ∀ x, Gl x → Calls Tryd.prog 15 #[.string ⟨#[119, 111, 114, 107, 32, 53, 10, 104, 97, 108, 116]⟩] x fun e w' => ∃ ao cap, e = .returned (.tuple #[.slice ao 0 cap, .int .i64 2, .int .i64 3]) ∧ Below x.heap.size x w' :=
    fun x gx => (lread_any ⟨#[119, 111, 114, 107, 32, 53, 10, 104, 97, 108, 116]⟩ (by decide) x gx).mono fun e w' h => by
      have e0 : (⟨#[119, 111, 114, 107, 32, 53, 10, 104, 97, 108, 116]⟩ : ByteArray).data.toList = [119, 111, 114, 107, 32, 53, 10, 104, 97, 108, 116] := rfl
      rw [e0, awO] at h
      obtain ⟨ao, cap, h1, _, h3⟩ := h
      exact ⟨ao, cap, h1, h3⟩
  have r2 : ∀ x, Gl x → Calls Tryd.prog 15 #[.string ⟨#[119, 111, 114, 107, 32, 53, 10, 104, 97, 108, 116, 10]⟩] x fun e w' => ∃ ao cap, e = .returned (.tuple #[.slice ao 2 cap, .int .i64 0, .int .i64 0]) ∧ Below x.heap.size x w' :=
    fun x gx => (lread_any ⟨#[119, 111, 114, 107, 32, 53, 10, 104, 97, 108, 116, 10]⟩ (by decide) x gx).mono fun e w' h => by
      have e0 : (⟨#[119, 111, 114, 107, 32, 53, 10, 104, 97, 108, 116, 10]⟩ : ByteArray).data.toList = [119, 111, 114, 107, 32, 53, 10, 104, 97, 108, 116, 10] := rfl
      rw [e0, awA] at h
      obtain ⟨ao, cap, h1, _, h3⟩ := h
      exact ⟨ao, cap, h1, h3⟩
  go_enter Tryd.func9, Tryd.ntmps9
  go_wp2_with fail
  refine (t1 _ g).mono ?_
  rintro e w1 ⟨rfl, hB1⟩
  have g1 := g.on hB1
  go_wp2_with fail
  refine (p1 _ g1).mono ?_
  rintro e w2 ⟨rfl, hk⟩
  have hB2 := bel_next hB1 hk
  clear hk hB1 g1
  have hB3 := hB2.alloc hB2.size (.cells #[.int .i64 34, .int .i64 0, .int .i64 0, .int .i64 1, .int .i64 0, .int .u32 0] 24)
  have hE := heap_alloc_new w2 (.cells #[.int .i64 34, .int .i64 0, .int .i64 0, .int .i64 1, .int .i64 0, .int .u32 0] 24)
  go_upto_region 3 with fail
  generalize w2.alloc (.cells #[.int .i64 34, .int .i64 0, .int .i64 0, .int .i64 1, .int .i64 0, .int .u32 0] 24) = w3 at hB3 hE ⊢
  generalize w2.heap.size = x3 at hE ⊢
  clear hB2
  have g3 := g.on hB3
  go_wp2_with fail
  refine (r1 _ g3).mono ?_
  rintro e w4 ⟨ao, cap, rfl, hk⟩
  have hB4 := bel_next hB3 hk
  have hE4 := (hk.block _ (blk_lt hE)).trans hE
  clear hk hB3 g3 hE
  have g4 := g.on hB4
  go_wp2_with fail
  refine (r2 _ g4).mono ?_
  rintro e w5 ⟨ao2, cap2, rfl, hk⟩
  have hB5 := bel_next hB4 hk
  have hE5 := (hk.block _ (blk_lt hE4)).trans hE4
  clear hk hB4 g4 hE4
  have c0 : w5.cell? ⟨x3, 0, none⟩ = some (.int .i64 34) := by rw [cell_blk hE5]; rfl
  have c1 : w5.cell? ⟨x3, 1, none⟩ = some (.int .i64 0) := by rw [cell_blk hE5]; rfl
  have c2 : w5.cell? ⟨x3, 2, none⟩ = some (.int .i64 0) := by rw [cell_blk hE5]; rfl
  have c3 : w5.cell? ⟨x3, 3, none⟩ = some (.int .i64 1) := by rw [cell_blk hE5]; rfl
  have c4 : w5.cell? ⟨x3, 4, none⟩ = some (.int .i64 0) := by rw [cell_blk hE5]; rfl
  have c5 : w5.cell? ⟨x3, 5, none⟩ = some (.int .u32 0) := by rw [cell_blk hE5]; rfl
  go_wp2_with fail
  go_ret
  exact ⟨rfl, hB5⟩
end Go.Proofs.YtghfkpddkmaflaaDoor
