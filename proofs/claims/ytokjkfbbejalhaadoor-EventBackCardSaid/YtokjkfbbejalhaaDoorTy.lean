/- awake of layer 5's laws answers true. Conditions: the library's variables' data. -/
import Derived.Test.YtokjkfbbejalhaaDoorTq
import Derived.Test.YtokjkfbbejalhaaDoorTt
namespace Go.Proofs.YtokjkfbbejalhaaDoor
open Go Go.RowKit
set_option linter.unusedVariables false
set_option linter.unusedSimpArgs false
set_option maxRecDepth 20000
def tkS (h : Bool) (r : List (List UInt8)) : Option (Nat × List (List UInt8)) :=
  if h then (match r with | [] => none | x :: t => (numS 4294967295 x).map fun n => (n, t)) else some (0, r)
def prsES (W : List (List UInt8)) : Option Ev :=
  if W.length < 3 then none else
    match numS 18446744073709551615 (W.getD 0 []), numS 18446744073709551615 (W.getD 1 []), (tkS (hasA (kd ⟨(W.getD 2 []).toArray⟩)) (W.drop 3)).bind (fun a => (tkS (hasB (kd ⟨(W.getD 2 []).toArray⟩)) a.2).bind fun b => (tkS (hasV (kd ⟨(W.getD 2 []).toArray⟩)) b.2).map fun v => (a.1, b.1, v.1, v.2)) with
    | some ct, some cy, some f => if kd ⟨(W.getD 2 []).toArray⟩ = 0 ∨ f.2.2.2 ≠ [] then none else some (⟨kd ⟨(W.getD 2 []).toArray⟩, cy, ct, f.1, f.2.1, f.2.2.1⟩ : Ev)
    | _, _, _ => none
def prsS (l : List UInt8) : Ev × Int := match prsES (wds l) with | none => (default, 3) | some e => fin e
theorem tkS_eq (h : Bool) (r : List (List UInt8)) : tk h r = tkS h r := by
  unfold tk tkS
  cases r with
  | nil => rfl
  | cons x t => simp only [numP_eq (B := 32) (by decide) (by decide)]
theorem prsES_eq (W : List (List UInt8)) : prsE W = prsES W := by
  unfold prsE prsES
  by_cases hl : W.length < 3
  · rw [if_pos hl, if_pos hl]
  · rw [if_neg hl, if_neg hl]
    simp only [numP_eq (B := 64) (by decide) (by decide), tkN3, tkS_eq]
    rw [show (2 : Nat) ^ 64 - 1 = 18446744073709551615 from rfl]
    generalize kd ⟨(W.getD 2 []).toArray⟩ = K
    cases numS 18446744073709551615 (W.getD 0 []) with
    | none => rfl
    | some a =>
      cases numS 18446744073709551615 (W.getD 1 []) with
      | none => rfl
      | some b =>
        cases h1 : tkS (hasA K) (W.drop 3) with
        | none => rfl
        | some A =>
          simp only [Option.bind_some]
          cases h2 : tkS (hasB K) A.2 with
          | none => rfl
          | some B =>
            simp only [Option.bind_some]
            cases h3 : tkS (hasV K) B.2 with
            | none => rfl
            | some V => rfl
theorem prsS_eq (l : List UInt8) : prs l = prsS l := by
  unfold prs prsS
  rw [prsES_eq]
  cases prsES (wds l) <;> rfl
theorem aw1 : prs [53, 32, 57, 32, 101, 120, 105, 116, 32, 49, 54] = (default, 5) := by rw [prsS_eq]; decide +kernel
theorem aw2 : prs [53, 32, 57, 32, 104, 97, 108, 116] = (default, 3) := by rw [prsS_eq]; decide +kernel
theorem aw3 : prs [53, 32, 57, 32, 112, 111, 115, 116, 32, 56, 48, 32, 51, 32, 50, 53, 53] = (⟨14, 9, 5, 80, 3, 255⟩, 0) := by rw [prsS_eq]; decide +kernel
theorem aw4 : (Ev.mk 5 9 5 2 255 0).chk = 0 := by decide +kernel
theorem aw5 : txt ⟨5, 9, 5, 2, 255, 0⟩ = [53, 32, 57, 32, 115, 119, 105, 116, 99, 104, 32, 50, 32, 50, 53, 53] := by
  have h5 : Lib.decDigits 5 = [53] := Lib.decDigits_one (by decide)
  have h9 : Lib.decDigits 9 = [57] := Lib.decDigits_one (by decide)
  have h2 : Lib.decDigits 2 = [50] := Lib.decDigits_one (by decide)
  have h25 : Lib.decDigits 25 = [50, 53] := Lib.decDigits_two (by decide) (by decide)
  have h255 : Lib.decDigits 255 = [50, 53, 53] := by rw [Lib.decDigits, dif_neg (by decide), show 255 / 10 = 25 from rfl, h25]; rfl
  unfold txt ap
  rw [h5, h9]
  simp only [h2, h255]
  decide +kernel
theorem aw6 : kd ⟨#[114, 101, 102, 117, 115, 101]⟩ = 23 := by decide +kernel
theorem aw7 : nm 1 = ⟨#[105, 114, 113]⟩ := by decide +kernel
set_option maxHeartbeats 4000000 in
theorem awake5_any (w : World) (g : Gl w) : Calls Tryd.prog 9 #[] w fun e w' => e = .returned (.bool true) ∧ Below w.heap.size w w' := by
  have wf : (Ev.mk 5 9 5 2 255 0).Wf := ⟨by decide, by decide, by decide, by decide, by decide, by decide, by decide⟩
  have t1 : ∀ x, Gl x → Calls Tryd.prog 15 #[.agg #[.int .i64 5, .int .u64 9, .int .u64 5, .int .u32 2, .int .u32 255, .int .u32 0]] x fun e w' => e = .returned (.tuple #[.string ⟨#[53, 32, 57, 32, 115, 119, 105, 116, 99, 104, 32, 50, 32, 50, 53, 53]⟩, .int .i64 0]) ∧ Below x.heap.size x w' :=
    fun x gx => (text_any ⟨5, 9, 5, 2, 255, 0⟩ wf x gx).mono fun e w' h => ⟨h.1.trans (by rw [aw4, aw5]; rfl), h.2⟩
  have p1 : ∀ x, Gl x → Calls Tryd.prog 17 #[.string ⟨#[53, 32, 57, 32, 101, 120, 105, 116, 32, 49, 54]⟩] x fun e w' => e = .returned (.tuple #[.agg #[.int .i64 0, .int .u64 0, .int .u64 0, .int .u32 0, .int .u32 0, .int .u32 0], .int .i64 5]) ∧ Below x.heap.size x w' :=
    fun x gx => (parse_any ⟨#[53, 32, 57, 32, 101, 120, 105, 116, 32, 49, 54]⟩ (by decide) x gx).mono fun e w' h => ⟨h.1.trans (by rw [aw1]; rfl), h.2⟩
  have p2 : ∀ x, Gl x → Calls Tryd.prog 17 #[.string ⟨#[53, 32, 57, 32, 104, 97, 108, 116]⟩] x fun e w' => e = .returned (.tuple #[.agg #[.int .i64 0, .int .u64 0, .int .u64 0, .int .u32 0, .int .u32 0, .int .u32 0], .int .i64 3]) ∧ Below x.heap.size x w' :=
    fun x gx => (parse_any ⟨#[53, 32, 57, 32, 104, 97, 108, 116]⟩ (by decide) x gx).mono fun e w' h => ⟨h.1.trans (by rw [aw2]; rfl), h.2⟩
  have p3 : ∀ x, Gl x → Calls Tryd.prog 17 #[.string ⟨#[53, 32, 57, 32, 112, 111, 115, 116, 32, 56, 48, 32, 51, 32, 50, 53, 53]⟩] x fun e w' => e = .returned (.tuple #[.agg #[.int .i64 14, .int .u64 9, .int .u64 5, .int .u32 80, .int .u32 3, .int .u32 255], .int .i64 0]) ∧ Below x.heap.size x w' :=
    fun x gx => (parse_any ⟨#[53, 32, 57, 32, 112, 111, 115, 116, 32, 56, 48, 32, 51, 32, 50, 53, 53]⟩ (by decide) x gx).mono fun e w' h => ⟨h.1.trans (by rw [aw3]; rfl), h.2⟩
  have k1 : ∀ x, Calls Tryd.prog 14 #[.string ⟨#[114, 101, 102, 117, 115, 101]⟩] x fun e w' => e = .returned (.int .i64 23) ∧ Below x.heap.size x w' :=
    fun x => (kind_any ⟨#[114, 101, 102, 117, 115, 101]⟩ x).mono fun e w' h => ⟨h.1.trans (by rw [aw6]; rfl), h.2⟩
  have n1 := fun x => name_any 1 x
  rw [aw7] at n1
  go_enter Tryd.func9, Tryd.ntmps9
  go_wp2_with fail
  refine (t1 _ g).mono ?_
  rintro e w1 ⟨rfl, hB1⟩
  have g1 := g.on hB1
  go_wp2_with fail
  refine (p1 _ g1).mono ?_
  rintro e w2 ⟨rfl, hk⟩
  have hB2 := bel_next hB1 hk
  clear hk hB1 g1
  have hB3 := hB2.alloc hB2.size (.cells #[.int .i64 0, .int .u64 0, .int .u64 0, .int .u32 0, .int .u32 0, .int .u32 0] 25)
  go_upto_region 3 with fail
  generalize w2.alloc (.cells #[.int .i64 0, .int .u64 0, .int .u64 0, .int .u32 0, .int .u32 0, .int .u32 0] 25) = w3 at hB3 ⊢
  generalize w2.heap.size = x1
  clear hB2
  have g3 := g.on hB3
  go_wp2_with fail
  refine (p2 _ g3).mono ?_
  rintro e w4 ⟨rfl, hk⟩
  have hB4 := bel_next hB3 hk
  clear hk hB3 g3
  have hB5 := hB4.alloc hB4.size (.cells #[.int .i64 0, .int .u64 0, .int .u64 0, .int .u32 0, .int .u32 0, .int .u32 0] 25)
  go_upto_region 4 with fail
  generalize w4.alloc (.cells #[.int .i64 0, .int .u64 0, .int .u64 0, .int .u32 0, .int .u32 0, .int .u32 0] 25) = w5 at hB5 ⊢
  generalize w4.heap.size = x2
  clear hB4
  have g5 := g.on hB5
  go_wp2_with fail
  refine (p3 _ g5).mono ?_
  rintro e w6 ⟨rfl, hk⟩
  have hB6 := bel_next hB5 hk
  clear hk hB5 g5
  have hB7 := hB6.alloc hB6.size (.cells #[.int .i64 14, .int .u64 9, .int .u64 5, .int .u32 80, .int .u32 3, .int .u32 255] 25)
  have hE := heap_alloc_new w6 (.cells #[.int .i64 14, .int .u64 9, .int .u64 5, .int .u32 80, .int .u32 3, .int .u32 255] 25)
  go_upto_region 5 with fail
  generalize w6.alloc (.cells #[.int .i64 14, .int .u64 9, .int .u64 5, .int .u32 80, .int .u32 3, .int .u32 255] 25) = w7 at hB7 hE ⊢
  generalize w6.heap.size = x3 at hE ⊢
  have c0 : w7.cell? ⟨x3, 0, none⟩ = some (.int .i64 14) := by rw [cell_blk hE]; rfl
  have c1 : w7.cell? ⟨x3, 1, none⟩ = some (.int .u64 9) := by rw [cell_blk hE]; rfl
  have c2 : w7.cell? ⟨x3, 2, none⟩ = some (.int .u64 5) := by rw [cell_blk hE]; rfl
  have c3 : w7.cell? ⟨x3, 3, none⟩ = some (.int .u32 80) := by rw [cell_blk hE]; rfl
  have c4 : w7.cell? ⟨x3, 4, none⟩ = some (.int .u32 3) := by rw [cell_blk hE]; rfl
  have c5 : w7.cell? ⟨x3, 5, none⟩ = some (.int .u32 255) := by rw [cell_blk hE]; rfl
  go_wp2_with fail
  refine (k1 _).mono ?_
  rintro e w8 ⟨rfl, hk⟩
  have hB8 := bel_next hB7 hk
  clear hk hB7 c0 c1 c2 c3 c4 c5 hE
  go_wp2_with fail
  refine (n1 _).mono ?_
  rintro e w9 ⟨rfl, hk⟩
  have hB9 := bel_next hB8 hk
  clear hk hB8
  go_wp2_with fail
  go_ret
  exact ⟨rfl, hB9⟩
end Go.Proofs.YtokjkfbbejalhaaDoor
