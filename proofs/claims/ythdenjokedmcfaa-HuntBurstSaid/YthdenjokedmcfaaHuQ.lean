/- Items whose events lie anywhere; taffrailref09.Same of them, Told. No condition but those that each names. -/
import Derived.Test.YthdenjokedmcfaaHuJ
import Derived.Deep.QuietTactic
import Derived.BigQuiet
import Derived.Deep.RegionLaw
namespace Go.Proofs.Ythdenjokedmcfaa
open Go.WideShapes Go.Deep Go.RowKit
set_option linter.unusedVariables false
set_option linter.unusedSimpArgs false
set_option maxRecDepth 20000
structure ItSl (w : World) (lo : Nat) (v : Value) (l : List Itm) : Prop where
  own : w.ownsRow lo 44 4 v l.length (itCells l)
  evs : ∀ x ∈ l, ∃ ao cap, x.sv = .slice ao x.evs.length cap ∧ SlArgN w ao x.evs.length cap 6 (fun i j => (x.evs.getD i default).f j)
theorem ItIn.sl {w : World} {lo : Nat} {v : Value} {l : List Itm} (h : ItIn w lo v l) : ItSl w lo v l :=
  ⟨h.own, fun x hx => by
    obtain ⟨⟨ao, cap, hs⟩, he⟩ := h.evs x hx
    rw [hs] at he
    exact ⟨ao, cap, hs, slArgN_own he⟩⟩
theorem ItSl.below {w w' : World} {lo : Nat} {v : Value} {l : List Itm} (h : ItSl w lo v l) (k : Below w.heap.size w w') : ItSl w' lo v l :=
  ⟨own_below h.own k, fun x hx => by obtain ⟨ao, cap, h1, h2⟩ := h.evs x hx; exact ⟨ao, cap, h1, h2.kept k⟩⟩
theorem itSl_cell {w : World} {lo n cap : Nat} {ao : Option Addr} {l : List Itm} (h : ItSl w lo (.slice ao n cap) l) (hn : n = l.length) (hl : 0 < l.length) : ∃ g, ao = some ⟨g, 0, none⟩ ∧ l.length ≤ cap ∧ cap ≤ maxLen ∧ ∀ i, i < l.length → w.cell? ⟨g, i * 4, none⟩ = some (.int .i64 (l.getD i default).k) ∧ w.cell? ⟨g, i * 4 + 1, none⟩ = some (.int .u32 (l.getD i default).seq) ∧ w.cell? ⟨g, i * 4 + 2, none⟩ = some (.int .u32 (l.getD i default).lost) ∧ w.cell? ⟨g, i * 4 + 3, none⟩ = some (l.getD i default).sv := by
  subst hn
  have h0 := h.own
  rcases h0.2 with ⟨h1, h2⟩ | ⟨g, cp, cur, h1, hlo, hb, hnc, hcm, hrest⟩
  · simp only [Value.slice.injEq] at h1
    omega
  · simp only [Value.slice.injEq] at h1
    obtain ⟨rfl, _, rfl⟩ := h1
    refine ⟨g, rfl, hnc, hcm, fun i hi => ?_⟩
    have hc : ∀ j, j < 4 → w.cell? ⟨g, i * 4 + j, none⟩ = some ((l.getD i default).f j) := fun j hj => by
      have := h0.cells rfl (i * 4 + j) _ (itCells_at l i j hi hj)
      rw [Go.WideShapes.add_plain, Nat.zero_add] at this
      exact this
    exact ⟨hc 0 (by decide), hc 1 (by decide), hc 2 (by decide), hc 3 (by decide)⟩
set_option maxHeartbeats 1000000 in
theorem rsame9b_any {w : World} {lo1 lo2 cap1 cap2 : Nat} {ao1 ao2 : Option Addr} {l m : List Itm} (h1 : ItSl w lo1 (.slice ao1 l.length cap1) l) (h2 : ItSl w lo2 (.slice ao2 m.length cap2) m) (he : l.map Itm.p = m.map Itm.p) (hn : l.length ≤ 1000000) (hev : ∀ x ∈ l, x.evs.length ≤ 1000000) :
    Calls Try.prog 23 #[.slice ao1 l.length cap1, .slice ao2 m.length cap2] w fun x w' => x = .returned (.bool true) ∧ ∃ n, w.drewN n = w' := by
  have hl : m.length = l.length := by have := congrArg List.length he; simpa using this.symm
  rw [hl]
  rw [hl] at h2
  have HE := Lib.hid (And.intro he hev)
  have HH := Lib.hid (And.intro h1 h2)
  have HL := Lib.hid hl
  clear he hev h1 h2 hl
  generalize hN : l.length = N at *
  go_enter Try.func23, Try.ntmps23
  go_wp2_with fail
  go_loopw [5] (fun x wr => ∃ (i n : Nat), x = .int .i64 i ∧ i ≤ N ∧ wr = w.drewN n) (fun x _ => N - (intOf x).toNat)
  case atStart => exact ⟨0, 0, rfl, Nat.zero_le _, rfl⟩
  case round =>
    obtain ⟨i, n, rfl, hi, rfl⟩ := hrel
    by_cases hlt : i < N
    · have hlt' : (i : Int) < N := by omega
      have H1 := HH.out.1.below (kept_drewN w n)
      have H2 := HH.out.2.below (kept_drewN w n)
      obtain ⟨W, hW⟩ : ∃ W, W = w.drewN n := ⟨_, rfl⟩
      rw [← hW] at H1 H2 ⊢
      have HW := Lib.hid hW
      clear hW
      obtain ⟨g, rfl, q1, q2, qc⟩ := itSl_cell H1 hN.symm (by omega)
      obtain ⟨g', rfl, q3, q4, qc'⟩ := itSl_cell H2 HL.out.symm (by have := HL.out; omega)
      obtain ⟨c0, c1, c2, c3⟩ := qc i (by omega)
      obtain ⟨d0, d1, d2, d3⟩ := qc' i (by have := HL.out; omega)
      have hp := map_getD HE.out.1 (show i < l.length by omega)
      have e1 := H1.evs _ (mem_getD (show i < l.length by omega))
      have e2 := H2.evs _ (mem_getD (show i < m.length by have := HL.out; omega))
      have hlen := HE.out.2 _ (mem_getD (show i < l.length by omega))
      generalize l.getD i default = x at *
      generalize m.getD i default = y at *
      obtain ⟨xk, xs, xl, xv, xe⟩ := x
      obtain ⟨yk, ys, yl, yv, ye⟩ := y
      simp only [Itm.p, Prod.mk.injEq] at hp
      obtain ⟨rfl, rfl, rfl, rfl⟩ := hp
      obtain ⟨oa, ca, hxv, e1⟩ := e1
      obtain ⟨ob, cb, hyv, e2⟩ := e2
      simp only at hxv hyv e1 e2 c0 c1 c2 c3 d0 d1 d2 d3 hlen
      subst hxv hyv
      have hs : ∀ a, Calls Try.prog 41 #[.slice oa xe.length ca, .slice ob xe.length cb] (W.drewN a) (fun e w'' => e = .returned (.bool true) ∧ ∃ m, w'' = W.drewN m) := fun a => Calls.quiet_of ((rsame_eq (W.drewN a) oa ob xe.length ca cb (fun i => xe.getD i default) (by exact e1) (by exact e2) hlen).mono fun e w' h => ⟨h.1, by obtain ⟨m9, h9⟩ := h.2; exact ⟨m9, h9.symm⟩⟩)
      clear qc qc' e1 e2 H1 H2
      go_upto_region 6 with fail
      go_quiet (exact hs _)
      go_wp2_with fail
      go_roundw
      case measure => simp [intOf]; omega
      case rel => exact ⟨i + 1, _, by go_num, by omega, by rw [HW.out, World.drewN_drewN]⟩
    · have hlt' : ¬ (i : Int) < N := by omega
      go_wp2_with fail
      go_ret
      exact ⟨rfl, _, rfl⟩

/-- Frames of the code's own. -/
theorem frCells_at : ∀ (K : List FrV) (i j : Nat), i < K.length → j < 2 → (frCells K)[i * 2 + j]? = some ((K.getD i default).c j)
  | [], i, _, h, _ => absurd h (Nat.not_lt_zero _)
  | e :: l, 0, j, _, hj => by
    match j, hj with
    | 0, _ => rfl
    | 1, _ => rfl
  | e :: l, i + 1, j, h, hj => by
    have ih := frCells_at l i j (by simpa using h) hj
    have e1 : frCells (e :: l) = [.int .u32 e.seq, .slice e.oa e.len e.cap] ++ frCells l := rfl
    rw [e1, List.getElem?_append_right (by simp; omega)]
    have e2 : (i + 1) * 2 + j - ([.int .u32 e.seq, .slice e.oa e.len e.cap] : List Value).length = i * 2 + j := by simp; omega
    rw [e2, ih]
    rfl
theorem frOwn_cell {w : World} {lo n cap : Nat} {ao : Option Addr} {K : List FrV} (h : w.ownsRow lo 48 2 (.slice ao n cap) n (frCells K)) (hn : n = K.length) (hl : 0 < K.length) : ∃ g, ao = some ⟨g, 0, none⟩ ∧ n ≤ cap ∧ cap ≤ maxLen ∧ ∀ i, i < K.length → w.cell? ⟨g, i * 2, none⟩ = some (.int .u32 (K.getD i default).seq) ∧ w.cell? ⟨g, i * 2 + 1, none⟩ = some (.slice (K.getD i default).oa (K.getD i default).len (K.getD i default).cap) := by
  subst hn
  rcases h.2 with ⟨h1, h2⟩ | ⟨g, cp, cur, h1, hlo, hb, hnc, hcm, hrest⟩
  · omega
  · simp only [Value.slice.injEq] at h1
    obtain ⟨rfl, _, rfl⟩ := h1
    refine ⟨g, rfl, hnc, hcm, fun i hi => ?_⟩
    have hc : ∀ j, j < 2 → w.cell? ⟨g, i * 2 + j, none⟩ = some ((K.getD i default).c j) := fun j hj => by
      have := h.cells rfl (i * 2 + j) _ (frCells_at K i j hi hj)
      rw [Go.WideShapes.add_plain, Nat.zero_add] at this
      exact this
    exact ⟨hc 0 (by decide), hc 1 (by decide)⟩
/-- The items that frames tell. -/
def toldI (K : List FrV) : Nat → List Itm × Nat
  | 0 => ([], 0)
  | i + 1 => ((toldI K i).1 ++ ((if (toldI K i).2 < (K.getD i default).seq then [⟨2, (toldI K i).2, (K.getD i default).seq - (toldI K i).2, .slice none 0 0, []⟩] else []) ++ [⟨1, (K.getD i default).seq, 0, .slice (K.getD i default).oa (K.getD i default).len (K.getD i default).cap, (K.getD i default).pf.2⟩]), (K.getD i default).seq + 1)
def kF (K : List FrV) : Nat → PFr := fun i => (K.getD i default).pf
theorem toldI_eq (K : List FrV) : ∀ i, (toldI K i).1.map Itm.p = (toldN (kF K) (fun _ => true) i).1 ∧ (toldI K i).2 = (toldN (kF K) (fun _ => true) i).2
  | 0 => ⟨rfl, rfl⟩
  | i + 1 => by
    obtain ⟨h1, h2⟩ := toldI_eq K i
    rw [toldI, toldN, if_pos rfl]
    refine ⟨?_, rfl⟩
    rw [List.map_append, h1, h2, List.map_append]
    congr 1
    show _ = told _ _ _
    unfold told gapI
    have e : (kF K i).1 = (K.getD i default).seq := rfl
    rw [e]
    split <;> rfl
theorem toldI_len (K : List FrV) : ∀ i, (toldI K i).1.length ≤ 2 * i
  | 0 => Nat.le_refl _
  | i + 1 => by
    have := toldI_len K i
    rw [toldI]
    simp only [List.length_append]
    split <;> simp <;> omega
theorem toldI_ev {w : World} {K : List FrV} (hK : ∀ i, i < K.length → (K.getD i default).Ok w) : ∀ i, i ≤ K.length → ∀ x ∈ (toldI K i).1, ∃ ao cap, x.sv = .slice ao x.evs.length cap ∧ SlArgN w ao x.evs.length cap 6 (fun i j => (x.evs.getD i default).f j)
  | 0, _, x, hx => by cases hx
  | i + 1, hi, x, hx => by
    rw [toldI] at hx
    simp only [List.mem_append] at hx
    rcases hx with hx | hx | hx
    · exact toldI_ev hK i (by omega) x hx
    · split at hx
      · obtain rfl := List.mem_singleton.1 hx
        exact ⟨none, 0, rfl, Nat.le_refl _, Nat.zero_le _, fun i hi => absurd hi (Nat.not_lt_zero _)⟩
      · cases hx
    · obtain rfl := List.mem_singleton.1 hx
      have hok := hK i (by omega)
      have hl := pf_len (K.getD i default)
      refine ⟨(K.getD i default).oa, (K.getD i default).cap, by show Value.slice _ _ _ = Value.slice _ (K.getD i default).pf.2.length _; rw [hl], ?_⟩
      show SlArgN w (K.getD i default).oa (K.getD i default).pf.2.length (K.getD i default).cap 6 (fun q j => ((K.getD i default).pf.2.getD q default).f j)
      rw [hl]
      exact hok.sl.congr fun q hq j _ => by
        have := pf_z (f := K.getD i default) hq
        show ((K.getD i default).z q).f j = ((K.getD i default).pf.2.getD q default).f j
        rw [← this]; rfl
set_option maxHeartbeats 2000000 in
theorem rtold_any (w : World) (lo : Nat) (ao : Option Addr) (cp : Nat) (K : List FrV) (h : w.ownsRow lo 48 2 (.slice ao K.length cp) K.length (frCells K)) (hK : ∀ i, i < K.length → (K.getD i default).Ok w) (hl : K.length ≤ 8) (hr : ∀ i, i < K.length → (toldI K i).2 ≤ (K.getD i default).seq ∧ (K.getD i default).seq ≤ 100) :
    Calls Try.prog 32 #[.slice ao K.length cp] w fun x w' => ∃ ao2 cp2, x = .returned (.slice ao2 (toldI K K.length).1.length cp2) ∧ ItSl w' w.heap.size (.slice ao2 (toldI K K.length).1.length cp2) (toldI K K.length).1 ∧ Below w.heap.size w w' := by
  obtain ⟨i0, hi0, hz0, hz1, hz2⟩ := itm_info
  have HH := Lib.hid (And.intro h (And.intro hK hr))
  have hlit := World.ownsRow_lit (e := 44) (base := w.heap.size) (size := 4) w #[] 0 (Nat.le_refl _) (by decide) rfl
  have hal := (Below.refl w.heap.size w).alloc (Nat.le_refl _) (.cells #[] 44)
  obtain ⟨N, hN⟩ : ∃ N, N = K.length := ⟨_, rfl⟩
  rw [← hN] at hl ⊢
  have HN := Lib.hid hN
  clear h hK hr hN
  go_enter Try.func32, Try.ntmps32
  go_upto_region 4 with fail
  generalize w.alloc (.cells #[] 44) = w1 at *
  go_loopg [3, 4, 5] (N) (fun g out nx i wr => ∃ (j : Nat) (ao2 : Option Addr) (cp2 : Nat), out = .slice ao2 (toldI K j).1.length cp2 ∧ nx = .int .u64 (toldI K j).2 ∧ i = .int .i64 j ∧ j ≤ N ∧ Below w.heap.size w wr ∧ wr.ownsRow w.heap.size 44 4 (.slice ao2 (toldI K j).1.length cp2) (toldI K j).1.length (itCells (toldI K j).1) ∧ N - j ≤ g)
  case atStart => exact ⟨0, _, _, rfl, rfl, rfl, Nat.zero_le _, hal, hlit, Nat.le_refl _⟩
  case round =>
    clear hlit hal
    obtain ⟨j, ao2, cp2, rfl, rfl, rfl, hj, hB, hown, hg⟩ := hrel
    have hlen := toldI_len K j
    by_cases hlt : j < N
    · have hlt' : (j : Int) < N := by omega
      have hN := HN.out
      obtain ⟨g9, rfl, q1, q2, qc⟩ := frOwn_cell HH.out.1 rfl (by omega)
      obtain ⟨c0, c1⟩ := qc j (by omega)
      have hb9 : g9 < w.heap.size := (HH.out.1.lt g9 rfl).2
      have qc0 := c0
      have qc1 := c1
      have c0 := (hB.cell hb9).trans c0
      have c1 := (hB.cell hb9).trans c1
      have hrr := HH.out.2.2 j (by omega)
      have HT := Lib.hid (show toldI K (j + 1) = _ from toldI.eq_2 K j)
      have hq1 : N ≤ cp := by omega
      generalize K.getD j default = f at *
      generalize toldI K j = S0 at *
      obtain ⟨L, nx⟩ := S0
      obtain ⟨sq, foa, fl, fc, fz⟩ := f
      simp only at c0 c1 qc0 qc1 hrr hown hlen HT
      clear qc q1 hN
      have hw1 : IntKind.u64.wrap (sq : Int) = (sq : Int) := by rw [IntKind.wrap_u64]; omega
      have hw2 : IntKind.u32.wrap (nx : Int) = (nx : Int) := by rw [IntKind.wrap_u32]; omega
      obtain ⟨d, hd⟩ : ∃ d : Nat, d = sq - nx := ⟨_, rfl⟩
      have hw3 : IntKind.u64.wrap ((sq : Int) - (nx : Int)) = (d : Int) := by rw [IntKind.wrap_u64]; omega
      have hw4 : IntKind.u32.wrap (d : Int) = (d : Int) := by rw [IntKind.wrap_u32]; omega
      have hw5 : IntKind.u64.wrap ((sq : Int) + 1) = ((sq + 1 : Nat) : Int) := by rw [IntKind.wrap_u64]; omega
      have HD := Lib.hid hd
      clear hd
      have d0 := qc0
      have d1 := qc1
      by_cases hgp : nx < sq
      · have hgp' : (0 : Int) < 1 := by decide
        have hgt : (nx : Int) < (sq : Int) := by omega
        have hal7 := (Below.refl wr.heap.size wr).alloc (Nat.le_refl _) (.cells #[.int .i64 2, .int .u32 nx, .int .u32 d, .slice none 0 0] 44)
        have hB7 := hB.trans (hal7.mono hB.size)
        have ho7 := own_below hown hal7
        have hs7 : Src (wr.alloc (.cells #[.int .i64 2, .int .u32 nx, .int .u32 d, .slice none 0 0] 44)) (.slice (some ⟨wr.heap.size, 0, none⟩) 1 1) 1 (itCells [⟨2, nx, d, .slice none 0 0, []⟩]) := src_lit wr #[.int .i64 2, .int .u32 nx, .int .u32 d, .slice none 0 0] 44 1
        have hone7 : ∀ u ∈ itCells [⟨2, nx, d, .slice none 0 0, []⟩], u.oneCell' = true := itCells_one1 (n := 0) (ao := none) (cap := 0) rfl
        have hb7 := hB7.size
        go_upto_region 8 with (at_builtin; (refine list_append rfl (.tmp 21) (.tmp 34) 35 rfl w.heap.size hb7 44 i0 _ 4 40 ul_items hi0 hz0 hz1 hz2 rfl (by decide) (.slice ao2 L.length cp2) L.length (itCells L) rfl ho7 _ 1 (itCells [⟨2, nx, d, .slice none 0 0, []⟩]) rfl rfl hs7 hone7 (by unfold maxLen; omega) (by omega) ?_); intro ao8 cp8 w8 hown8 hg8 hat8; have hB8 := below_append hB7 ho7 hg8 hb7; clear hat8 hg8)
        clear hal7 hB7 ho7 hs7 hone7 hb7 c0 c1
        have hal9 := (Below.refl w8.heap.size w8).alloc (Nat.le_refl _) (.cells #[.int .i64 1, .int .u32 sq, .int .u32 0, .slice foa fl fc] 44)
        have hB9 := (hB8.trans (hal9.mono hB8.size)).drew
        have ho9 : ((w8.alloc (.cells #[.int .i64 1, .int .u32 sq, .int .u32 0, .slice foa fl fc] 44)).drew).ownsRow w.heap.size 44 4 (.slice ao8 (L.length + 1) cp8) (L.length + 1) (itCells L ++ itCells [⟨2, nx, d, .slice none 0 0, []⟩]) := own_below (own_below hown8 hal9) ((Below.refl _ _).drew)
        have hs9 : Src ((w8.alloc (.cells #[.int .i64 1, .int .u32 sq, .int .u32 0, .slice foa fl fc] 44)).drew) (.slice (some ⟨w8.heap.size, 0, none⟩) 1 1) 1 (itCells [⟨1, sq, 0, .slice foa fl fc, (FrV.pf ⟨sq, foa, fl, fc, fz⟩).2⟩]) := src_lit w8 #[.int .i64 1, .int .u32 sq, .int .u32 0, .slice foa fl fc] 44 1
        have hone9 : ∀ u ∈ itCells [⟨1, sq, 0, .slice foa fl fc, (FrV.pf ⟨sq, foa, fl, fc, fz⟩).2⟩], u.oneCell' = true := itCells_one1 rfl
        have hb9' := hB9.size
        have c0 := (hB8.cell hb9).trans d0
        have c1 := (hB8.cell hb9).trans d1
        go_region_law (first | (refine step_append rfl (.tmp 36) (.tmp 48) 35 rfl w.heap.size hb9' 44 i0 _ 4 40 ul_items hi0 hz0 hz1 hz2 rfl (by decide) (.slice ao8 (L.length + 1) cp8) (L.length + 1) (itCells L ++ itCells [⟨2, nx, d, .slice none 0 0, []⟩]) rfl ho9 _ 1 (itCells [⟨1, sq, 0, .slice foa fl fc, (FrV.pf ⟨sq, foa, fl, fc, fz⟩).2⟩]) rfl rfl hs9 hone9 (by unfold maxLen; omega) (by omega) ?_); intro ao9 cp9 w9 hown9 hg9 hat9; have hB10 := below_append hB9 ho9 hg9 hb9'; clear hat9 hg9)
        all_goals
          clear hal9 hB9 ho9 hs9 hone9 hb9'
          have c0 := (hB10.cell hb9).trans d0
          go_wp2_with fail
          obtain ⟨g, rfl⟩ : ∃ g, gk = g + 1 := ⟨gk - 1, by omega⟩
          go_roundg g
          case measure => omega
          case rel =>
            have e9 : toldI K (j + 1) = (L ++ [⟨2, nx, d, .slice none 0 0, []⟩] ++ [⟨1, sq, 0, .slice foa fl fc, (FrV.pf ⟨sq, foa, fl, fc, fz⟩).2⟩], sq + 1) := by rw [HT.out]; simp [hgp, HD.out]
            refine ⟨j + 1, ao9, cp9, ?_, ?_, by go_num, by omega, hB10, ?_, by omega⟩
            · rw [e9]; simp
            · rw [e9]; simp
            · rw [e9]; simp only [List.length_append, List.length_singleton, itCells_append]; exact hown9
      · have hgt : ¬ (nx : Int) < (sq : Int) := by omega
        have hown7 := hown
        have hB7 := hB
        clear hown hB c0 c1
        have c0 := (hB7.cell hb9).trans d0
        have c1 := (hB7.cell hb9).trans d1
        have hal9 := (Below.refl wr.heap.size wr).alloc (Nat.le_refl _) (.cells #[.int .i64 1, .int .u32 sq, .int .u32 0, .slice foa fl fc] 44)
        have hB9 := (hB7.trans (hal9.mono hB7.size)).drew
        have ho9 : ((wr.alloc (.cells #[.int .i64 1, .int .u32 sq, .int .u32 0, .slice foa fl fc] 44)).drew).ownsRow w.heap.size 44 4 (.slice ao2 (L.length) cp2) (L.length) (itCells L) := own_below (own_below hown7 hal9) ((Below.refl _ _).drew)
        have hs9 : Src ((wr.alloc (.cells #[.int .i64 1, .int .u32 sq, .int .u32 0, .slice foa fl fc] 44)).drew) (.slice (some ⟨wr.heap.size, 0, none⟩) 1 1) 1 (itCells [⟨1, sq, 0, .slice foa fl fc, (FrV.pf ⟨sq, foa, fl, fc, fz⟩).2⟩]) := src_lit wr #[.int .i64 1, .int .u32 sq, .int .u32 0, .slice foa fl fc] 44 1
        have hone9 : ∀ u ∈ itCells [⟨1, sq, 0, .slice foa fl fc, (FrV.pf ⟨sq, foa, fl, fc, fz⟩).2⟩], u.oneCell' = true := itCells_one1 rfl
        have hb9' := hB9.size
        have c0 := (hB7.cell hb9).trans d0
        have c1 := (hB7.cell hb9).trans d1
        go_upto_region 8 with fail
        go_region_law (first | (refine step_append rfl (.tmp 36) (.tmp 48) 35 rfl w.heap.size hb9' 44 i0 _ 4 40 ul_items hi0 hz0 hz1 hz2 rfl (by decide) (.slice ao2 (L.length) cp2) (L.length) (itCells L) rfl ho9 _ 1 (itCells [⟨1, sq, 0, .slice foa fl fc, (FrV.pf ⟨sq, foa, fl, fc, fz⟩).2⟩]) rfl rfl hs9 hone9 (by unfold maxLen; omega) (by omega) ?_); intro ao9 cp9 w9 hown9 hg9 hat9; have hB10 := below_append hB9 ho9 hg9 hb9'; clear hat9 hg9)
        all_goals
          clear hal9 hB9 ho9 hs9 hone9 hb9'
          have c0 := (hB10.cell hb9).trans d0
          go_wp2_with fail
          obtain ⟨g, rfl⟩ : ∃ g, gk = g + 1 := ⟨gk - 1, by omega⟩
          go_roundg g
          case measure => omega
          case rel =>
            have e9 : toldI K (j + 1) = (L ++ [⟨1, sq, 0, .slice foa fl fc, (FrV.pf ⟨sq, foa, fl, fc, fz⟩).2⟩], sq + 1) := by rw [HT.out]; simp [hgp]
            refine ⟨j + 1, ao9, cp9, ?_, ?_, by go_num, by omega, hB10, ?_, by omega⟩
            · rw [e9]; simp
            · rw [e9]; simp
            · rw [e9]; simp only [List.length_append, List.length_singleton, itCells_append]; exact hown9
    · have hlt' : ¬ (j : Int) < N := by omega
      obtain rfl : j = N := by omega
      go_wp2_with fail
      go_ret
      exact ⟨ao2, cp2, rfl, ⟨hown, fun x hx => by obtain ⟨a, c, e1, e2⟩ := toldI_ev HH.out.2.1 j (by rw [HN.out]; exact Nat.le_refl _) x hx; exact ⟨a, c, e1, e2.kept hB⟩⟩, hB⟩
end Go.Proofs.Ythdenjokedmcfaa
