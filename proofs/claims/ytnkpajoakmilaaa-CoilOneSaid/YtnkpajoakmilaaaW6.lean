/- The walks of the statements of layer 6. -/
import Derived.Test.YtnkpajoakmilaaaRdB
import Derived.Test.YtnkpajoakmilaaaSame
import Derived.Deep.DeepMust
namespace Go.Proofs.Ytnkpajoakmilaaa
open Go.WideShapes Go.Deep Go.RowKit
set_option maxRecDepth 20000
theorem ev_of {H : Type} {enc : TypeId × Value → H} {W : World} {base n : Nat} {held : Bool} {cs : List Value} {x : DataW H × List MemPlace} (hl : cs.length = 6)
    (hn : DataW.trod enc Try.prog W base (fun _ => true) held n 39 cs = some x) : ∃ e : Ev, cs = e.cells ∧ e.Wf := by
  match cs, hl with
  | [c0, c1, c2, c3, c4, c5], _ =>
    obtain ⟨ys, n', _, _, _, hyl, hf⟩ := DataW.trod_struct Try.underlying39 hn
    have hyl : ys.length = 6 := hyl
    have k1 : Try.prog.cellsOf 3 = 1 := by kernel_rfl
    have k2 : Try.prog.cellsOf 30 = 1 := by kernel_rfl
    have k3 : Try.prog.cellsOf 37 = 1 := by kernel_rfl
    have h0 : DataW.trod enc Try.prog W base (fun _ => true) held n' 3 (List.take (Try.prog.cellsOf 3) [c0, c1, c2, c3, c4, c5]) = ys[0]? := hf 0 _ rfl
    have h1 : DataW.trod enc Try.prog W base (fun _ => true) held n' 30 (List.take (Try.prog.cellsOf 30) [c1, c2, c3, c4, c5]) = ys[1]? := hf 1 _ rfl
    have h2 : DataW.trod enc Try.prog W base (fun _ => true) held n' 30 (List.take (Try.prog.cellsOf 30) [c2, c3, c4, c5]) = ys[2]? := hf 2 _ rfl
    have h3 : DataW.trod enc Try.prog W base (fun _ => true) held n' 37 (List.take (Try.prog.cellsOf 37) [c3, c4, c5]) = ys[3]? := hf 3 _ rfl
    have h4 : DataW.trod enc Try.prog W base (fun _ => true) held n' 37 (List.take (Try.prog.cellsOf 37) [c4, c5]) = ys[4]? := hf 4 _ rfl
    have h5 : DataW.trod enc Try.prog W base (fun _ => true) held n' 37 (List.take (Try.prog.cellsOf 37) [c5]) = ys[5]? := hf 5 _ rfl
    rw [k1, List.getElem?_eq_getElem (by omega)] at h0
    rw [k2, List.getElem?_eq_getElem (by omega)] at h1 h2
    rw [k3, List.getElem?_eq_getElem (by omega)] at h3 h4 h5
    obtain ⟨z0, e0, _, w0⟩ := DataW.trod_int Try.underlying3 h0
    obtain ⟨z1, e1, _, w1⟩ := DataW.trod_int Try.underlying30 h1
    obtain ⟨z2, e2, _, w2⟩ := DataW.trod_int Try.underlying30 h2
    obtain ⟨z3, e3, _, w3⟩ := DataW.trod_int Try.underlying37 h3
    obtain ⟨z4, e4, _, w4⟩ := DataW.trod_int Try.underlying37 h4
    obtain ⟨z5, e5, _, w5⟩ := DataW.trod_int Try.underlying37 h5
    simp at e0 e1 e2 e3 e4 e5
    obtain ⟨r0, r1⟩ := i64_of w0
    obtain ⟨m1, rfl, u1⟩ := u64_of w1
    obtain ⟨m2, rfl, u2⟩ := u64_of w2
    obtain ⟨m3, rfl, u3⟩ := u32_of w3
    obtain ⟨m4, rfl, u4⟩ := u32_of w4
    obtain ⟨m5, rfl, u5⟩ := u32_of w5
    subst e0 e1 e2 e3 e4 e5
    exact ⟨⟨z0, m1, m2, m3, m4, m5⟩, rfl, r0, r1, u1, u2, u3, u4, u5⟩
theorem slArg_struct39 {H : Type} {enc : TypeId × Value → H} {W : World} {base : Nat} {held : Bool} {v : Value} {d : DataW H} {ps : List MemPlace}
    (hv : ∃ a len cap, v = .slice a len cap) (h : DataW.Trod enc Try.prog W base (fun _ => true) held 22 v d ps) :
    ∃ (oa : Option Addr) (len cap : Nat) (z : Nat → Ev), v = .slice oa len cap ∧ SlArgN W oa len cap 6 (fun i j => (z i).f j) ∧ SlLen d cap ∧ (∀ i, i < len → (z i).Wf) ∧ (oa = none → cap = 0) := by
  obtain ⟨oa, len, cap, L, rfl, hs, hd, hx⟩ := slArgN_any (c := 6) Try.underlying22 (by kernel_rfl) (by decide) hv h
  have hnone : oa = none → cap = 0 := by
    obtain ⟨fuel, hf⟩ := h
    rcases open_slice Try.underlying22 hf with ⟨hcs, _⟩ | ⟨x, l, cp, m, n, D, Pl, hcs, _, hl, hm, hmm, hxx, hx⟩
    · simp [Value.cells] at hcs
      exact fun _ => hcs.2.2
    · simp [Value.cells] at hcs
      intro h0
      rw [h0] at hcs
      cases hcs.1
  have key : ∀ i, i < len → ∃ o : Ev, (∀ j, j < 6 → (L i).getD j (.bool false) = o.f j) ∧ o.Wf := by
    intro i hi
    obtain ⟨hl, n, x, hn⟩ := hx i hi
    obtain ⟨e, he, hw⟩ := ev_of hl hn
    refine ⟨e, fun j hj => ?_, hw⟩
    rw [he]
    match j, hj with
    | 0, _ => rfl
    | 1, _ => rfl
    | 2, _ => rfl
    | 3, _ => rfl
    | 4, _ => rfl
    | 5, _ => rfl
  obtain ⟨z, hz⟩ := Go.Deep.choose_lt (α := Ev) (p := fun i o => (∀ j, j < 6 → (L i).getD j (.bool false) = o.f j) ∧ o.Wf) key
  exact ⟨oa, len, cap, z, rfl, hs.congr fun i hi => (hz i hi).1, hd, fun i hi => (hz i hi).2, hnone⟩
theorem SlArgN.kept {W w' : World} {oa : Option Addr} {len cap c : Nat} {F : Nat → Nat → Value} (h : SlArgN W oa len cap c F) (k : Below W.heap.size W w') : SlArgN w' oa len cap c F :=
  ⟨h.1, h.2.1, fun i hi => by obtain ⟨b, off, h1, h2, h3⟩ := h.below k (Nat.le_refl _) hi; exact ⟨b, off, h1, Nat.lt_of_lt_of_le h2 k.size, h3⟩⟩
theorem f_at (e : Ev) {j : Nat} (hj : j < 6) : e.cells[j]? = some (e.f j) := by
  match j, hj with
  | 0, _ => rfl
  | 1, _ => rfl
  | 2, _ => rfl
  | 3, _ => rfl
  | 4, _ => rfl
  | 5, _ => rfl
theorem slN_two (w : World) (a b : Ev) : SlArgN (w.alloc (.cells (a.cells ++ b.cells).toArray 39)) (some ⟨w.heap.size, 0, none⟩) 2 2 6 (fun i j => ((fun i => if i = 0 then a else b) i).f j) := by
  refine ⟨Nat.le_refl _, by decide, fun i hi => ⟨_, 0, rfl, by simp, fun j hj => ?_⟩⟩
  rw [cell_blk (heap_alloc_new w _)]
  rcases (show i = 0 ∨ i = 1 by omega) with rfl | rfl
  · show (a.cells ++ b.cells).toArray[0 + 0 * 6 + j]? = some (a.f j)
    rw [← f_at a hj]
    simp only [Nat.zero_mul, Nat.add_zero, Nat.zero_add, List.getElem?_toArray]
    rw [List.getElem?_append_left (by simp [Ev.cells]; omega)]
  · show (a.cells ++ b.cells).toArray[0 + 1 * 6 + j]? = some (b.f j)
    rw [← f_at b hj]
    simp only [Nat.zero_add, List.getElem?_toArray]
    rw [List.getElem?_append_right (by simp [Ev.cells])]
    congr 1
    simp [Ev.cells]
theorem slN_one (w : World) (a : Ev) : SlArgN (w.alloc (.cells a.cells.toArray 39)) (some ⟨w.heap.size, 0, none⟩) 1 1 6 (fun i j => ((fun _ => a) i).f j) := by
  refine ⟨Nat.le_refl _, by decide, fun i hi => ⟨_, 0, rfl, by simp, fun j hj => ?_⟩⟩
  rw [cell_blk (heap_alloc_new w _)]
  obtain rfl : i = 0 := by omega
  rw [← f_at a hj]
  simp
theorem twelveN {w w5 : World} {g : Nat} {x0 x1 x2 x3 x4 x5 x6 x7 x8 x9 x10 x11 : Value} (hk : Below w.heap.size w w5) (hg : g < w.heap.size) (H : w.cell? ⟨g, 0, none⟩ = some x0 ∧ w.cell? ⟨g, 1, none⟩ = some x1 ∧ w.cell? ⟨g, 2, none⟩ = some x2 ∧ w.cell? ⟨g, 3, none⟩ = some x3 ∧ w.cell? ⟨g, 4, none⟩ = some x4 ∧ w.cell? ⟨g, 5, none⟩ = some x5 ∧ w.cell? ⟨g, 6, none⟩ = some x6 ∧ w.cell? ⟨g, 7, none⟩ = some x7 ∧ w.cell? ⟨g, 8, none⟩ = some x8 ∧ w.cell? ⟨g, 9, none⟩ = some x9 ∧ w.cell? ⟨g, 10, none⟩ = some x10 ∧ w.cell? ⟨g, 11, none⟩ = some x11) : w5.cell? ⟨g, 0, none⟩ = some x0 ∧ w5.cell? ⟨g, 1, none⟩ = some x1 ∧ w5.cell? ⟨g, 2, none⟩ = some x2 ∧ w5.cell? ⟨g, 3, none⟩ = some x3 ∧ w5.cell? ⟨g, 4, none⟩ = some x4 ∧ w5.cell? ⟨g, 5, none⟩ = some x5 ∧ w5.cell? ⟨g, 6, none⟩ = some x6 ∧ w5.cell? ⟨g, 7, none⟩ = some x7 ∧ w5.cell? ⟨g, 8, none⟩ = some x8 ∧ w5.cell? ⟨g, 9, none⟩ = some x9 ∧ w5.cell? ⟨g, 10, none⟩ = some x10 ∧ w5.cell? ⟨g, 11, none⟩ = some x11 :=
  have key := fun (i : Nat) (x : Value) (h : w.cell? ⟨g, i, none⟩ = some x) => (hk.cell (p := ⟨g, i, none⟩) hg).trans h
  ⟨key _ _ H.1, key _ _ H.2.1, key _ _ H.2.2.1, key _ _ H.2.2.2.1, key _ _ H.2.2.2.2.1, key _ _ H.2.2.2.2.2.1, key _ _ H.2.2.2.2.2.2.1, key _ _ H.2.2.2.2.2.2.2.1, key _ _ H.2.2.2.2.2.2.2.2.1, key _ _ H.2.2.2.2.2.2.2.2.2.1, key _ _ H.2.2.2.2.2.2.2.2.2.2.1, key _ _ H.2.2.2.2.2.2.2.2.2.2.2⟩
def zA : Nat → Ev := fun i => if i = 0 then ⟨22, 9, 5, 3, 0, 0⟩ else ⟨4, 9, 6, 0, 0, 0⟩
theorem zA_wf (i : Nat) : (zA i).Wf := by
  unfold zA
  split <;> exact ⟨by decide, by decide, by decide, by decide, by decide, by decide, by decide⟩
theorem slN_A (w : World) : SlArgN (w.alloc (.cells #[.int .i64 22, .int .u64 9, .int .u64 5, .int .u32 3, .int .u32 0, .int .u32 0, .int .i64 4, .int .u64 9, .int .u64 6, .int .u32 0, .int .u32 0, .int .u32 0] 39)) (some ⟨w.heap.size, 0, none⟩) 2 2 6 (fun i j => (zA i).f j) :=
  slN_two w ⟨22, 9, 5, 3, 0, 0⟩ ⟨4, 9, 6, 0, 0, 0⟩
set_option maxHeartbeats 1000000 in
theorem awake6 (w : World) : Calls Try.prog 9 #[] w fun e w' => e = .returned (.bool true) ∧ Below w.heap.size w w' := by
  have P1 : prnS zA 2 = [22, 0, 0, 3, 4, 1, 1, 0] := by decide +kernel
  have P2 : prnE zA 2 = 0 := by decide +kernel
  have P3 : rdS ⟨#[22, 0, 0, 3, 4, 1, 1, 0]⟩ 9 5 = [⟨22, 9, 5, 3, 0, 0⟩, ⟨4, 9, 6, 0, 0, 0⟩] := by decide +kernel
  have P4 : (rdL ⟨#[22, 0, 0, 3, 4, 1, 1, 0]⟩ (ByteArray.size ⟨#[22, 0, 0, 3, 4, 1, 1, 0]⟩) 9 5 0).2 = 0 := by decide +kernel
  have P5 : szV ⟨22, 9, 5, 3, 0, 0⟩ ⟨4, 9, 6, 0, 0, 0⟩ = 4 := by decide +kernel
  have hsl := slN_A w
  have hb0 := heap_alloc_new w (.cells #[.int .i64 22, .int .u64 9, .int .u64 5, .int .u32 3, .int .u32 0, .int .u32 0, .int .i64 4, .int .u64 9, .int .u64 6, .int .u32 0, .int .u32 0, .int .u32 0] 39)
  have hB0 := (Below.refl w.heap.size w).alloc (Nat.le_refl _) (.cells #[.int .i64 22, .int .u64 9, .int .u64 5, .int .u32 3, .int .u32 0, .int .u32 0, .int .i64 4, .int .u64 9, .int .u64 6, .int .u32 0, .int .u32 0, .int .u32 0] 39)
  go_enter Try.func9, Try.ntmps9
  go_wp2_with fail
  generalize w.alloc (.cells #[.int .i64 22, .int .u64 9, .int .u64 5, .int .u32 3, .int .u32 0, .int .u32 0, .int .i64 4, .int .u64 9, .int .u64 6, .int .u32 0, .int .u32 0, .int .u32 0] 39) = W0 at hsl hb0 hB0 ⊢
  obtain ⟨g, hg⟩ : ∃ g, g = w.heap.size := ⟨_, rfl⟩
  rw [← hg] at hsl hb0 ⊢
  clear hg
  refine (cprint_any W0 _ 2 2 zA hsl (fun i _ => zA_wf i) (by decide)).mono ?_
  rintro x w1 ⟨rfl, hk⟩
  have hsl1 := hsl.kept hk
  have hb1 := (hk.block g (blk_lt hb0)).trans hb0
  have hB1 := hB0.trans (hk.mono hB0.size)
  rw [P1, P2]
  clear hsl hk hB0 P1 P2 hb0
  go_wp2_with fail
  refine (cread_any ⟨#[22, 0, 0, 3, 4, 1, 1, 0]⟩ 9 5 (by decide) (by decide) (by decide) w1).mono ?_
  unfold EvsPost
  rw [P3, P4]
  rintro x w2 ⟨ao, cap, rfl, hown, hk⟩
  have hsl2 := hsl1.kept hk
  have hb2 := (hk.block g (blk_lt hb1)).trans hb1
  have hB2 := hB1.trans (hk.mono hB1.size)
  have hs3 : SlArgN w2 ao 2 cap 6 (fun i j => (zA i).f j) := (slArgN_own hown).congr fun i hi j _ => by
    have hi2 : i < 2 := hi
    rcases (show i = 0 ∨ i = 1 by omega) with rfl | rfl <;> rfl
  clear hsl1 hk hB1 P3 P4 hown hb1
  have c0 := cell_blk hb2 0
  have c1 := cell_blk hb2 1
  have c2 := cell_blk hb2 2
  have c3 := cell_blk hb2 3
  have c4 := cell_blk hb2 4
  have c5 := cell_blk hb2 5
  have c6 := cell_blk hb2 6
  have c7 := cell_blk hb2 7
  have c8 := cell_blk hb2 8
  have c9 := cell_blk hb2 9
  have c10 := cell_blk hb2 10
  have c11 := cell_blk hb2 11
  simp only [List.getElem?_toArray, List.getElem?_cons_zero, List.getElem?_cons_succ] at c0 c1 c2 c3 c4 c5 c6 c7 c8 c9 c10 c11
  have hgl : g < w2.heap.size := blk_lt hb2
  clear hb2
  have hcs := fun x => csize_any ⟨22, 9, 5, 3, 0, 0⟩ ⟨4, 9, 6, 0, 0, 0⟩ (zA_wf 0) (zA_wf 1) x
  rw [P5] at hcs
  unfold Ev.val at hcs
  simp only at hcs
  clear P5
  have H := And.intro c0 (And.intro c1 (And.intro c2 (And.intro c3 (And.intro c4 (And.intro c5 (And.intro c6 (And.intro c7 (And.intro c8 (And.intro c9 (And.intro c10 c11))))))))))
  clear c0 c1 c2 c3 c4 c5 c6 c7 c8 c9 c10 c11
  have hrs := rsame_eq w2.drew _ _ 2 _ _ zA hs3 hsl2 (by decide)
  go_wp2_with fail
  go_region_held3 (fun w' => w'.cell? ⟨g, 0, none⟩ = some (.int .i64 22) ∧ w'.cell? ⟨g, 1, none⟩ = some (.int .u64 9) ∧ w'.cell? ⟨g, 2, none⟩ = some (.int .u64 5) ∧ w'.cell? ⟨g, 3, none⟩ = some (.int .u32 3) ∧ w'.cell? ⟨g, 4, none⟩ = some (.int .u32 0) ∧ w'.cell? ⟨g, 5, none⟩ = some (.int .u32 0) ∧ w'.cell? ⟨g, 6, none⟩ = some (.int .i64 4) ∧ w'.cell? ⟨g, 7, none⟩ = some (.int .u64 9) ∧ w'.cell? ⟨g, 8, none⟩ = some (.int .u64 6) ∧ w'.cell? ⟨g, 9, none⟩ = some (.int .u32 0) ∧ w'.cell? ⟨g, 10, none⟩ = some (.int .u32 0) ∧ w'.cell? ⟨g, 11, none⟩ = some (.int .u32 0)) (first | exact H | exact H2 | exact H3) (first | (go_at_call 14; (refine hrs.mono ?_); rintro x w4 ⟨rfl, n4, rfl⟩; have H2 : (w2.drew.drewN n4).cell? ⟨g, 0, none⟩ = some (.int .i64 22) ∧ (w2.drew.drewN n4).cell? ⟨g, 1, none⟩ = some (.int .u64 9) ∧ (w2.drew.drewN n4).cell? ⟨g, 2, none⟩ = some (.int .u64 5) ∧ (w2.drew.drewN n4).cell? ⟨g, 3, none⟩ = some (.int .u32 3) ∧ (w2.drew.drewN n4).cell? ⟨g, 4, none⟩ = some (.int .u32 0) ∧ (w2.drew.drewN n4).cell? ⟨g, 5, none⟩ = some (.int .u32 0) ∧ (w2.drew.drewN n4).cell? ⟨g, 6, none⟩ = some (.int .i64 4) ∧ (w2.drew.drewN n4).cell? ⟨g, 7, none⟩ = some (.int .u64 9) ∧ (w2.drew.drewN n4).cell? ⟨g, 8, none⟩ = some (.int .u64 6) ∧ (w2.drew.drewN n4).cell? ⟨g, 9, none⟩ = some (.int .u32 0) ∧ (w2.drew.drewN n4).cell? ⟨g, 10, none⟩ = some (.int .u32 0) ∧ (w2.drew.drewN n4).cell? ⟨g, 11, none⟩ = some (.int .u32 0) := H) | (go_at_call 16; ((refine (hcs _).mono ?_)); rintro x w5 ⟨rfl, hk5⟩; have H3 : w5.cell? ⟨g, 0, none⟩ = some (.int .i64 22) ∧ w5.cell? ⟨g, 1, none⟩ = some (.int .u64 9) ∧ w5.cell? ⟨g, 2, none⟩ = some (.int .u64 5) ∧ w5.cell? ⟨g, 3, none⟩ = some (.int .u32 3) ∧ w5.cell? ⟨g, 4, none⟩ = some (.int .u32 0) ∧ w5.cell? ⟨g, 5, none⟩ = some (.int .u32 0) ∧ w5.cell? ⟨g, 6, none⟩ = some (.int .i64 4) ∧ w5.cell? ⟨g, 7, none⟩ = some (.int .u64 9) ∧ w5.cell? ⟨g, 8, none⟩ = some (.int .u64 6) ∧ w5.cell? ⟨g, 9, none⟩ = some (.int .u32 0) ∧ w5.cell? ⟨g, 10, none⟩ = some (.int .u32 0) ∧ w5.cell? ⟨g, 11, none⟩ = some (.int .u32 0) := twelveN hk5 (by exact hgl) (by exact H)))
  have hk6 : Below w2.heap.size w2 w5 := ⟨hk5.os, hk5.tape, hk5.output, hk5.size, hk5.block⟩
  have hB3 := hB2.trans (hk6.mono hB2.size)
  go_wp2_with fail
  go_ret
  exact ⟨rfl, hB3⟩
/-- The slice that the law makes of its argument. -/
theorem evs_src {W w1 : World} {oa : Option Addr} {len cap : Nat} {z : Nat → Ev} (h : SlArgN W oa len cap 6 (fun i j => (z i).f j)) (hk : Below W.heap.size W w1) (hv : oa = none → cap = 0) : Src w1 (.slice oa len cap) len (evCells ((List.range len).map z)) := by
  cases oa with
  | none =>
    have h0 : len = 0 := by
      rcases Nat.eq_zero_or_pos len with h0 | h0
      · exact h0
      · obtain ⟨b, off, h1, _⟩ := h.2.2 0 h0
        cases h1
    subst h0
    obtain rfl := hv rfl
    exact .inl ⟨rfl, rfl, rfl⟩
  | some a =>
    refine .inr ⟨a, cap, rfl, fun j u hj => ?_⟩
    have hlen : (evCells ((List.range len).map z)).length = len * 6 := by rw [evCells_length]; simp
    have hj2 : j < len * 6 := by
      rw [← hlen]
      exact (List.getElem?_eq_some_iff.1 hj).1
    have hi : j / 6 < len := by omega
    have hm : j % 6 < 6 := Nat.mod_lt _ (by decide)
    obtain ⟨b, off, h1, h2, h3⟩ := h.below hk (Nat.le_refl _) hi
    obtain rfl : a = ⟨b, off, none⟩ := by simpa using h1
    have h4 := h3 (j % 6) hm
    have h5 := evCells_at ((List.range len).map z) (j / 6) (j % 6) (by simpa using hi) hm
    rw [show j / 6 * 6 + j % 6 = j from by omega, hj] at h5
    have h6 : ((List.range len).map z).getD (j / 6) default = z (j / 6) := by simp [List.getElem?_map, List.getElem?_range hi]
    rw [h6] at h5
    rw [Go.WideShapes.add_plain, show off + j = off + j / 6 * 6 + j % 6 from by omega, h4, ← h5]
theorem evs_own {w : World} {base cap n : Nat} {ao : Option Addr} {len : Nat} {z : Nat → Ev} (h : w.ownsRow base 39 6 (.slice ao n cap) n (evCells ((List.range len).map z))) (hn : n = len) : SlArgN w ao n cap 6 (fun i j => (z i).f j) := by
  subst hn
  have hl : ((List.range n).map z).length = n := by simp
  have h' : w.ownsRow base 39 6 (.slice ao ((List.range n).map z).length cap) ((List.range n).map z).length (evCells ((List.range n).map z)) := by rw [hl]; exact h
  have := slArgN_own h'
  rw [hl] at this
  refine this.congr fun i hi j _ => ?_
  simp [List.getElem?_map, List.getElem?_range hi]
end Go.Proofs.Ytnkpajoakmilaaa
