/- A frame that came in by value; law07.own. No condition but those that each names. -/
import Derived.Test.YthdenjokedmcfaaFrA
import Derived.Deep.AppendLies
import Derived.Deep.DeepCutAuto
namespace Go.Proofs.Ythdenjokedmcfaa
open Go.WideShapes Go.Deep Go.RowKit
set_option maxRecDepth 20000
/-- A frame as an argument. -/
structure FrV where
  seq : Nat
  oa : Option Addr
  len : Nat
  cap : Nat
  z : Nat → Ev
def FrV.val (f : FrV) : Value := .agg #[.int .u32 f.seq, .slice f.oa f.len f.cap]
structure FrV.Ok (W : World) (f : FrV) : Prop where
  seq : f.seq < 4294967296
  sl : SlArgN W f.oa f.len f.cap 6 (fun i j => (f.z i).f j)
  wf : ∀ i, i < f.len → (f.z i).Wf
  nil : f.oa = none → f.cap = 0
theorem FrV.Ok.kept {W w' : World} {f : FrV} (h : f.Ok W) (k : Below W.heap.size W w') : f.Ok w' := { h with sl := h.sl.kept k }
theorem ev_of {H : Type} {enc : TypeId × Value → H} {W : World} {base n : Nat} {held : Bool} {cs : List Value} {x : DataW H × List MemPlace} (hl : cs.length = 6)
    (hn : DataW.trod enc Try.prog W base (fun _ => true) held n 85 cs = some x) : ∃ e : Ev, cs = e.cells ∧ e.Wf := by
  match cs, hl with
  | [c0, c1, c2, c3, c4, c5], _ =>
    obtain ⟨ys, n', _, _, _, hyl, hf⟩ := DataW.trod_struct Try.underlying85 hn
    have hyl : ys.length = 6 := hyl
    have k1 : Try.prog.cellsOf 3 = 1 := by kernel_rfl
    have k2 : Try.prog.cellsOf 32 = 1 := by kernel_rfl
    have k3 : Try.prog.cellsOf 41 = 1 := by kernel_rfl
    have h0 : DataW.trod enc Try.prog W base (fun _ => true) held n' 3 (List.take (Try.prog.cellsOf 3) [c0, c1, c2, c3, c4, c5]) = ys[0]? := hf 0 _ rfl
    have h1 : DataW.trod enc Try.prog W base (fun _ => true) held n' 32 (List.take (Try.prog.cellsOf 32) [c1, c2, c3, c4, c5]) = ys[1]? := hf 1 _ rfl
    have h2 : DataW.trod enc Try.prog W base (fun _ => true) held n' 32 (List.take (Try.prog.cellsOf 32) [c2, c3, c4, c5]) = ys[2]? := hf 2 _ rfl
    have h3 : DataW.trod enc Try.prog W base (fun _ => true) held n' 41 (List.take (Try.prog.cellsOf 41) [c3, c4, c5]) = ys[3]? := hf 3 _ rfl
    have h4 : DataW.trod enc Try.prog W base (fun _ => true) held n' 41 (List.take (Try.prog.cellsOf 41) [c4, c5]) = ys[4]? := hf 4 _ rfl
    have h5 : DataW.trod enc Try.prog W base (fun _ => true) held n' 41 (List.take (Try.prog.cellsOf 41) [c5]) = ys[5]? := hf 5 _ rfl
    rw [k1, List.getElem?_eq_getElem (by omega)] at h0
    rw [k2, List.getElem?_eq_getElem (by omega)] at h1 h2
    rw [k3, List.getElem?_eq_getElem (by omega)] at h3 h4 h5
    obtain ⟨z0, e0, _, w0⟩ := DataW.trod_int Try.underlying3 h0
    obtain ⟨z1, e1, _, w1⟩ := DataW.trod_int Try.underlying32 h1
    obtain ⟨z2, e2, _, w2⟩ := DataW.trod_int Try.underlying32 h2
    obtain ⟨z3, e3, _, w3⟩ := DataW.trod_int Try.underlying41 h3
    obtain ⟨z4, e4, _, w4⟩ := DataW.trod_int Try.underlying41 h4
    obtain ⟨z5, e5, _, w5⟩ := DataW.trod_int Try.underlying41 h5
    simp at e0 e1 e2 e3 e4 e5
    obtain ⟨r0, r1⟩ := i64_of w0
    obtain ⟨m1, rfl, u1⟩ := u64_of w1
    obtain ⟨m2, rfl, u2⟩ := u64_of w2
    obtain ⟨m3, rfl, u3⟩ := u32_of w3
    obtain ⟨m4, rfl, u4⟩ := u32_of w4
    obtain ⟨m5, rfl, u5⟩ := u32_of w5
    subst e0 e1 e2 e3 e4 e5
    exact ⟨⟨z0, m1, m2, m3, m4, m5⟩, rfl, r0, r1, u1, u2, u3, u4, u5⟩
theorem evs_of {H : Type} {enc : TypeId × Value → H} {W : World} {base : Nat} {held : Bool} {v : Value} {d : DataW H} {ps : List MemPlace}
    (hv : ∃ a len cap, v = .slice a len cap) (h : DataW.Trod enc Try.prog W base (fun _ => true) held 42 v d ps) :
    ∃ (oa : Option Addr) (len cap : Nat) (z : Nat → Ev), v = .slice oa len cap ∧ SlArgN W oa len cap 6 (fun i j => (z i).f j) ∧ (∀ i, i < len → (z i).Wf) ∧ (oa = none → cap = 0) := by
  obtain ⟨oa, len, cap, L, rfl, hs, hd, hx⟩ := slArgN_any (c := 6) Try.underlying42 (by kernel_rfl) (by decide) hv h
  have hnone : oa = none → cap = 0 := by
    obtain ⟨fuel, hf⟩ := h
    rcases open_slice Try.underlying42 hf with ⟨hcs, _⟩ | ⟨x, l, cp, m, n, D, Pl, hcs, _, hl, hm, hmm, hxx, hx⟩
    · simp [Value.cells] at hcs
      exact fun _ => hcs.2.2
    · simp [Value.cells] at hcs
      intro h0
      rw [h0] at hcs
      cases hcs.1
  have key : ∀ i, i < len → ∃ o : Ev, (∀ j, j < 6 → (L i).getD j (.bool false) = o.f j) ∧ o.Wf := by
    intro i hi
    obtain ⟨hl, n, x, hn⟩ := hx i hi
    obtain ⟨e, he, hw⟩ := ev_of hl hn
    refine ⟨e, fun j hj => ?_, hw⟩
    rw [he]
    match j, hj with
    | 0, _ => rfl
    | 1, _ => rfl
    | 2, _ => rfl
    | 3, _ => rfl
    | 4, _ => rfl
    | 5, _ => rfl
  obtain ⟨z, hz⟩ := Go.Deep.choose_lt (α := Ev) (p := fun i o => (∀ j, j < 6 → (L i).getD j (.bool false) = o.f j) ∧ o.Wf) key
  exact ⟨oa, len, cap, z, rfl, hs.congr fun i hi => (hz i hi).1, fun i hi => (hz i hi).2, hnone⟩
theorem arg_struct48 {H : Type} {enc : TypeId × Value → H} {W : World} {base : Nat} {held : Bool} {v : Value} {d : DataW H} {ps : List MemPlace}
    (hv : ∃ cs, v = .agg cs ∧ cs.size = Try.prog.cellsOf 48) (h : DataW.Trod enc Try.prog W base (fun _ => true) held 48 v d ps) : ∃ f : FrV, v = f.val ∧ f.Ok W := by
  obtain ⟨cs, rfl, hsz⟩ := hv
  obtain ⟨fuel, hf⟩ := h
  have h2 : Try.prog.cellsOf 48 = 2 := by kernel_rfl
  rw [h2] at hsz
  obtain ⟨l⟩ := cs
  match l, hsz with
  | [c0, c1], _ =>
    obtain ⟨ys, n', _, _, _, hyl, hfl⟩ := DataW.trod_struct Try.underlying48 hf
    have hyl : ys.length = 2 := hyl
    have k1 : Try.prog.cellsOf 41 = 1 := by kernel_rfl
    have k2 : Try.prog.cellsOf 42 = 1 := by kernel_rfl
    have g0 : DataW.trod enc Try.prog W base (fun _ => true) held n' 41 (List.take (Try.prog.cellsOf 41) [c0, c1]) = ys[0]? := hfl 0 _ rfl
    have g1 : DataW.trod enc Try.prog W base (fun _ => true) held n' 42 (List.take (Try.prog.cellsOf 42) [c1]) = ys[1]? := hfl 1 _ rfl
    rw [k1, List.getElem?_eq_getElem (by omega)] at g0
    rw [k2, List.getElem?_eq_getElem (by omega)] at g1
    obtain ⟨z0, e0, _, w0⟩ := DataW.trod_int Try.underlying41 g0
    simp at e0
    obtain ⟨m0, rfl, u0⟩ := u32_of w0
    subst e0
    have hv1 : ∃ a len cap, c1 = .slice a len cap := by
      rcases open_slice Try.underlying42 g1 with ⟨hcs, _⟩ | ⟨x, l, cp, m, n, D, Pl, hcs, _⟩
      · simp at hcs
        exact ⟨_, _, _, hcs⟩
      · simp at hcs
        exact ⟨_, _, _, hcs⟩
    obtain ⟨a, ln, cp, rfl⟩ := hv1
    have g2 : DataW.Trod enc Try.prog W base (fun _ => true) held 42 (.slice a ln cp) (ys[1]'(by omega)).1 (ys[1]'(by omega)).2 := ⟨n', g1⟩
    obtain ⟨oa, len, cap, z, h9, hs, hw, hnn⟩ := evs_of ⟨_, _, _, rfl⟩ g2
    simp only [Value.slice.injEq] at h9
    obtain ⟨rfl, rfl, rfl⟩ := h9
    exact ⟨⟨m0, a, ln, cp, z⟩, rfl, u0, hs, hw, hnn⟩
theorem evs_src {W w1 : World} {oa : Option Addr} {len cap : Nat} {z : Nat → Ev} (h : SlArgN W oa len cap 6 (fun i j => (z i).f j)) (hk : Below W.heap.size W w1) (hv : oa = none → cap = 0) : Src w1 (.slice oa len cap) len (evCells ((List.range len).map z)) := by
  cases oa with
  | none =>
    have h0 : len = 0 := by
      rcases Nat.eq_zero_or_pos len with h0 | h0
      · exact h0
      · obtain ⟨b, off, h1, _⟩ := h.2.2 0 h0
        cases h1
    subst h0
    obtain rfl := hv rfl
    exact .inl ⟨rfl, rfl, rfl⟩
  | some a =>
    refine .inr ⟨a, cap, rfl, fun j u hj => ?_⟩
    have hlen : (evCells ((List.range len).map z)).length = len * 6 := by rw [evCells_length]; simp
    have hj2 : j < len * 6 := by
      rw [← hlen]
      exact (List.getElem?_eq_some_iff.1 hj).1
    have hi : j / 6 < len := by omega
    have hm : j % 6 < 6 := Nat.mod_lt _ (by decide)
    obtain ⟨b, off, h1, h2, h3⟩ := h.below hk (Nat.le_refl _) hi
    obtain rfl : a = ⟨b, off, none⟩ := by simpa using h1
    have h4 := h3 (j % 6) hm
    have h5 := evCells_at ((List.range len).map z) (j / 6) (j % 6) (by simpa using hi) hm
    rw [show j / 6 * 6 + j % 6 = j from by omega, hj] at h5
    have h6 : ((List.range len).map z).getD (j / 6) default = z (j / 6) := by simp [List.getElem?_map, List.getElem?_range hi]
    rw [h6] at h5
    rw [Go.WideShapes.add_plain, show off + j = off + j / 6 * 6 + j % 6 from by omega, h4, ← h5]
theorem evs_own {w : World} {base cap n : Nat} {ao : Option Addr} {len : Nat} {z : Nat → Ev} (h : w.ownsRow base 85 6 (.slice ao n cap) n (evCells ((List.range len).map z))) (hn : n = len) : SlArgN w ao n cap 6 (fun i j => (z i).f j) := by
  subst hn
  have hl : ((List.range n).map z).length = n := by simp
  have h' : w.ownsRow base 85 6 (.slice ao ((List.range n).map z).length cap) ((List.range n).map z).length (evCells ((List.range n).map z)) := by rw [hl]; exact h
  have := slArgN_own h'
  rw [hl] at this
  refine this.congr fun i hi j _ => ?_
  simp [List.getElem?_map, List.getElem?_range hi]
set_option maxHeartbeats 4000000 in
theorem fown_any (w : World) (f : FrV) (h : f.Ok w) (hl : f.len ≤ 100) :
    Calls Try.prog 35 #[f.val] w fun x w' => ∃ ao cap, x = .returned (.agg #[.int .u32 f.seq, .slice ao f.len cap]) ∧ SlArgN w' ao f.len cap 6 (fun i j => (f.z i).f j) ∧ Below w.heap.size w w' := by
  obtain ⟨seq, oa, len, cap, z⟩ := f
  obtain ⟨h1, h2, h3, h4⟩ := h
  unfold FrV.val
  simp only at h1 h2 h3 h4 hl ⊢
  obtain ⟨i0, hi, hz0, hz1, hz2⟩ := ev_info
  have ul : Try.prog.underlying 42 = some (.slice 85) := by kernel_rfl
  have hB0 := ((Below.refl w.heap.size w).alloc (Nat.le_refl _) (.cells #[.int .u32 seq, .slice oa len cap] 48)).alloc (by simp) (.cells #[.int .u32 0, .slice none 0 0] 48)
  have hf0 : ((w.alloc (.cells #[.int .u32 seq, .slice oa len cap] 48)).alloc (.cells #[.int .u32 0, .slice none 0 0] 48)).heap[w.heap.size]? = some (.cells #[.int .u32 seq, .slice oa len cap] 48 (0, 0)) := blk_alloc (heap_alloc_new w _) _
  have hg0 : ((w.alloc (.cells #[.int .u32 seq, .slice oa len cap] 48)).alloc (.cells #[.int .u32 0, .slice none 0 0] 48)).heap[w.heap.size + 1]? = some (.cells #[.int .u32 0, .slice none 0 0] 48 (0, 0)) := by simpa using heap_alloc_new (w.alloc (.cells #[.int .u32 seq, .slice oa len cap] 48)) (.cells #[.int .u32 0, .slice none 0 0] 48)
  go_enter Try.func35, Try.ntmps35
  go_upto_region 1 with fail
  generalize (w.alloc (.cells #[.int .u32 seq, .slice oa len cap] 48)).alloc (.cells #[.int .u32 0, .slice none 0 0] 48) = W1 at hB0 hf0 hg0 ⊢
  obtain ⟨F, hF⟩ : ∃ F, F = w.heap.size := ⟨_, rfl⟩
  obtain ⟨G, hG⟩ : ∃ G, G = w.heap.size + 1 := ⟨_, rfl⟩
  rw [← hF] at hf0 ⊢
  rw [← hG] at hg0
  rw [show F + 1 = G by omega]
  have HFG := Lib.hid (And.intro hF hG)
  clear hF hG
  have c0 := cell_blk hf0 0
  have c1 := cell_blk hf0 1
  have d0 := cell_blk hg0 0
  have d1 := cell_blk hg0 1
  have df0 := frozen_blk hg0 0
  have df1 := frozen_blk hg0 1
  simp only [List.getElem?_toArray, List.getElem?_cons_zero, List.getElem?_cons_succ] at c0 c1 d0 d1
  have hlit := World.ownsRow_lit (e := 85) (base := W1.heap.size) (size := 6) W1.drew #[] 0 (Nat.le_refl _) (by decide) rfl
  have hsr := evs_src h2 (hB0.trans ((Below.drew (Below.refl W1.heap.size W1)).alloc (Nat.le_refl _) (.cells #[] 85) |>.mono hB0.size)) h4
  have hln : (evCells ((List.range len).map z)).length = len * 6 := by rw [evCells_length]; simp
  have hFl := blk_lt hf0
  have hGl := blk_lt hg0
  have hFn : F ≠ W1.heap.size := by omega
  have hGn : G ≠ W1.heap.size := by omega
  have HB := Lib.hid (And.intro hB0 (And.intro hf0 hg0))
  clear hB0 hf0 hg0
  go_region_law (first | (refine step_append rfl (.tmp 5) (.tmp 7) 42 rfl W1.heap.size (by simp) 85 i0 _ 6 40 ul hi hz0 hz1 hz2 rfl (by decide) (.slice (some ⟨W1.heap.size, 0, none⟩) 0 0) 0 [] rfl hlit _ len (evCells ((List.range len).map z)) rfl hln hsr (evCells_one _) (by unfold maxLen; omega) (by omega) ?_); intro ao cap2 w2 hown' hg' hat; have hw2 : w2.heap[G]? = some (.cells #[.int .u32 0, .slice none 0 0] 48 (0, 0)) := (hg'.block G (by simp; omega) (fun e => hGn (Option.some.inj e))).trans (blk_alloc (w := W1.drew) HB.out.2.2 _); have hw3 : w2.heap[F]? = some (.cells #[.int .u32 seq, .slice oa len cap] 48 (0, 0)) := (hg'.block F (by simp; omega) (fun e => hFn (Option.some.inj e))).trans (blk_alloc (w := W1.drew) HB.out.2.1 _); have p0 := cell_blk hw3 0; have p1 := cell_blk hw3 1; have m0 := cell_blk hw2 0; have m1 := cell_blk hw2 1; have mf0 := frozen_blk hw2 0; have mf1 := frozen_blk hw2 1; simp only [List.getElem?_toArray, List.getElem?_cons_zero, List.getElem?_cons_succ] at m0 m1 p0 p1)
  all_goals simp only [Nat.zero_add, List.nil_append] at hown'
  all_goals have hbw := below_append ((Below.drew (Below.refl W1.heap.size W1)).alloc (Nat.le_refl _) (.cells #[] 85)) hlit hg' (by simp)
  all_goals have hGw : w.heap.size ≤ G := by have := HFG.out.2; omega
  all_goals have hbf := bel_set3 (bel_set3 (HB.out.1.trans (hbw.mono HB.out.1.size)) ⟨G, 0, none⟩ (.int .u32 seq) hGw) ⟨G, 1, none⟩ (.slice ao len cap2) hGw
  all_goals have hof := own_only hown' (((Only.refl (fun k => k = G) w2).setCell ⟨G, 0, none⟩ (.int .u32 seq) fun _ => rfl).setCell ⟨G, 1, none⟩ (.slice ao len cap2) fun _ => rfl) (fun k hk => by rw [hk]; exact hGl)
  all_goals have hsf := evs_own hof rfl
  all_goals go_wp2_with fail
  all_goals exact bodyPost_ret (v := .agg #[.int .u32 seq, .slice ao len cap2]) (by simp [results, Try.results35, go_sem, m0, m1]) rfl ⟨ao, cap2, rfl, hsf, hbf⟩
end Go.Proofs.Ythdenjokedmcfaa
