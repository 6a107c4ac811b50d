/- The document's ring (ref08): Drain. No condition but those that each names. -/
import Derived.Test.YtbfipgeoecbpaaaRrP
import Derived.Deep.CutRange
namespace Go.Proofs.Ytbfipgeoecbpaaa
open Go.RowKit
set_option linter.unusedVariables false
set_option linter.unusedSimpArgs false
set_option maxRecDepth 20000
section
variable {w w' w15 : World} {m cap : Nat} {lv gv v' : Value} {L L' : List (List UInt8)} {GL : List ByteArray} {bg : Bool} {lo : Nat} {U : Nat → Prop}
/-- Other frames in the place of the first ones: the ring's block between the two stores, and the ring behind them. -/
theorem RrB.newL (h : RrB w m cap lv gv L GL bg lo U) (foot : ∀ k, U k → k < w.heap.size) (k : Below w.heap.size w w15) (own : w15.ownsRow w.heap.size 9 1 v' L'.length (sv (bL L'))) (bg' : Bool) (hb : bg' = true → L' ≠ []) :
    (w15.setCell ⟨m, 2, none⟩ v').heap[m]? = some (.cells (rrCells cap v' bg lo gv) 79 (0, 0)) ∧ w15.cell? ⟨m, 2, none⟩ = some lv ∧ w15.frozen? ⟨m, 2, none⟩ = false ∧
    RrB ((w15.setCell ⟨m, 2, none⟩ v').setCell ⟨m, 3, none⟩ (.bool bg')) m cap v' gv L' GL bg' lo (more U w ((w15.setCell ⟨m, 2, none⟩ v').setCell ⟨m, 3, none⟩ (.bool bg'))) ∧ Only U w ((w15.setCell ⟨m, 2, none⟩ v').setCell ⟨m, 3, none⟩ (.bool bg')) := by
  obtain ⟨n1, n2⟩ := h.vm
  have me15 := (k.block m (blk_lt h.me)).trans h.me
  have me16 : (w15.setCell ⟨m, 2, none⟩ v').heap[m]? = some (.cells (rrCells cap v' bg lo gv) 79 (0, 0)) := (blk_setCell me15 (i := 2) _).trans (by simp [rrCells])
  have og15 := own_keepR h.og fun g hgg => k.block g (h.og.lt g hgg).2
  have hv : v'.ownBlock ≠ some m := by
    intro q
    have := (own.lt m q).1
    have := blk_lt h.me
    omega
  have hk2 : ∀ {W : World} {i : Nat} {u v : Value} {n : Nat} {xs : List Value} {base : Nat}, W.ownsRow base 9 1 v n xs → v.ownBlock ≠ some m → (W.setCell ⟨m, i, none⟩ u).ownsRow base 9 1 v n xs := fun ho hn => own_keepR ho fun g hgg => Below.heap_setCell _ _ _ _ (fun q => hn (by rw [hgg, show g = m from q]))
  have hs : ((w15.setCell ⟨m, 2, none⟩ v').setCell ⟨m, 3, none⟩ (.bool bg')).heap.size = w15.heap.size := by simp [World.setCell]
  refine ⟨me16, by rw [cell_blk me15]; rfl, frozen_blk me15 2, ?_, (((Only.of_below k U).setCell _ _ fun _ => h.um).setCell _ _ fun _ => h.um)⟩
  exact { me := (blk_setCell me16 (i := 3) _).trans (by simp [rrCells]), ol := hk2 (hk2 (own_base own) hv) hv, og := hk2 (hk2 og15 n2) n2, um := .inl h.um, ul := fun g hgg => .inr ⟨(own.lt g hgg).1, by rw [hs]; exact (own.lt g hgg).2⟩, ug := fun g hgg => .inl (h.ug g hgg), ne := fun g hgg q => by have := (own.lt g hgg).1; have := foot g (h.ug g q); omega, gl := h.gl, los := h.los, bgn := hb }
/-- The frames behind the first one, as a source. -/
theorem RrB.tail_src {x : List UInt8} {t : List (List UInt8)} {g c : Nat} (h : RrB w m cap (.slice (some ⟨g, 0, none⟩) (t.length + 1) c) gv (x :: t) GL bg lo U) : (t.length + 1 ≤ c) ∧ g < w.heap.size ∧ w.cell? ⟨g, 0, none⟩ = some (.string (toB x)) ∧ Src w (.slice (some ⟨g, if c = 1 then 0 else 1, none⟩) t.length (c - 1)) t.length (sv (bL t)) := by
  obtain ⟨g2, c2, hlv, h1, h2, h3, hc⟩ := h.at (by simp)
  simp only [Value.slice.injEq, Option.some.injEq, Addr.mk.injEq, and_true] at hlv
  obtain ⟨rfl, _, rfl⟩ := hlv
  have h1' : t.length + 1 ≤ c := by simpa using h1
  refine ⟨h1', h3, hc 0 (by simp), .inr ⟨_, _, rfl, fun j u hj => ?_⟩⟩
  have hjl : j < t.length := by
    rcases Nat.lt_or_ge j t.length with q | q
    · exact q
    · rw [List.getElem?_eq_none (by simp [sv, bL]; exact q)] at hj; cases hj
  have := hc (j + 1) (by simp; exact hjl)
  rw [if_neg (by omega)]
  rw [show (⟨g, 1, none⟩ : Addr).add j = ⟨g, j + 1, none⟩ by simp [Addr.add, Nat.add_comm], this, ← hj]
  simp [sv, bL, hjl]
end
theorem take_minR (l : List UInt8) (K : Nat) : l.take K = l.take (min K l.length) := by
  by_cases h : K ≤ l.length
  · rw [Nat.min_eq_left h]
  · rw [List.take_of_length_le (by omega), List.take_of_length_le (by omega)]
theorem ba_eqR {a b : ByteArray} (h : a.data.toList = b.data.toList) : a = b := by
  cases a; cases b
  congr 1
  exact Array.toList_inj.1 h
theorem toB_app (a b : List UInt8) : toB (a ++ b) = toB a ++ toB b := ba_eqR (by simp [toB])
theorem toB_take (a : List UInt8) (j : Nat) : toB (a.take j) = (toB a).extract 0 j := ba_eqR (by simp [toB, ByteArray.data_extract])
theorem toB_drop (a : List UInt8) (j : Nat) : toB (a.drop j) = (toB a).extract j (toB a).size := ba_eqR (by rw [toB_size]; simp [toB, ByteArray.data_extract]; rw [List.take_of_length_le (by simp)])
theorem src_keepR {w w' : World} {g o m c : Nat} {news : List Value} (h : Src w (.slice (some ⟨g, o, none⟩) m c) m news) (hg : g < w.heap.size) (k : Below w.heap.size w w') : Src w' (.slice (some ⟨g, o, none⟩) m c) m news := by
  rcases h with ⟨e, _⟩ | ⟨ad, c', e, hc⟩
  · cases e
  · simp only [Value.slice.injEq, Option.some.injEq, true_and] at e
    obtain ⟨rfl, rfl⟩ := e
    exact .inr ⟨_, _, rfl, fun j u hj => (k.cell (p := (⟨g, o, none⟩ : Addr).add j) (by rw [Go.WideShapes.add_plain]; exact hg)).trans (hc j u hj)⟩
theorem svb_len (t : List (List UInt8)) : (sv (bL t)).length = t.length * 1 := by simp [sv, bL]
theorem grow_on2 {U : Nat → Prop} {w wr w' : World} (h : w.heap.size ≤ wr.heap.size) (h2 : wr.heap.size ≤ w'.heap.size) : ∀ k, more (grow U w wr) wr w' k → grow U w w' k := by
  rintro k ((q | q) | q)
  · exact .inl q
  · exact .inr ⟨q.1, Nat.lt_of_lt_of_le q.2 h2⟩
  · exact .inr ⟨Nat.le_trans h q.1, q.2⟩
theorem only_on2 {U : Nat → Prop} {w wr w' : World} (h : Only U w wr) (k : Only (grow U w wr) wr w') : Only U w w' := h.trans k fun i hi q => by
  rcases q with q | q
  · exact q
  · omega
def RdR (w : World) (m cap : Nat) (L : List (List UInt8)) (K : Nat) (bg : Bool) (lo : Nat) (U : Nat → Prop) (g : Nat) (most out : Value) (wr : World) : Prop :=
  ∃ (j : Nat) (L' : List (List UInt8)) (bg' : Bool) (C : List UInt8), most = .int .i64 j ∧ out = .string (toB C) ∧ C ++ L'.flatten.take j = L.flatten.take K ∧ drn L' (min j L'.flatten.length) bg' = drn L (min K L.flatten.length) bg ∧ Rr wr m cap L' bg' lo (grow U w wr) ∧ Only U w wr ∧ L'.length ≤ L.length ∧ j ≤ K ∧ C.length + L'.flatten.length ≤ 1000000000 ∧ (∀ x ∈ L', x ≠ []) ∧ 2 * L'.length + (if j = 0 then 0 else 1) ≤ g
def RrDrainPost (w : World) (m cap : Nat) (L : List (List UInt8)) (bg : Bool) (lo : Nat) (U : Nat → Prop) (K : Nat) (a : Ending) (w' : World) : Prop :=
  a = .returned (.string (toB (L.flatten.take K))) ∧ Rr w' m cap (drn L (min K L.flatten.length) bg).1 (drn L (min K L.flatten.length) bg).2 lo (grow U w w') ∧ Only U w w'
set_option maxHeartbeats 8000000 in
theorem rrdrain_any {w : World} {m cap : Nat} {L : List (List UInt8)} {bg : Bool} {lo : Nat} {U : Nat → Prop} (h : Rr w m cap L bg lo U) (K : Nat) (hK : (K : Int) ≤ 9223372036854775807) (hl : L.flatten.length ≤ 1000000000) (hll : L.length ≤ 1000000) (hpos : ∀ x ∈ L, x ≠ []) :
    Calls Try.prog 46 #[.pointer (some ⟨m, 0, none⟩), .int .i64 K] w (RrDrainPost w m cap L bg lo U K) := by
  obtain ⟨i0, hi, hz0, hz1, hz2⟩ := info_partsS info_str
  have hsame := h.same
  have HH := Lib.hid h
  clear h
  go_enter Try.func46, Try.ntmps46
  go_wp2_with fail
  go_loopg [1, 5] (2 * L.length + 1) (fun g most out wr => RdR w m cap L K bg lo U g most out wr)
  case atStart => exact ⟨K, L, bg, [], rfl, rfl, rfl, rfl, hsame, Only.refl _ _, Nat.le_refl _, Nat.le_refl _, by simpa using hl, hpos, by split <;> omega⟩
  case round =>
    clear hsame
    obtain ⟨j, L', bg', C, rfl, rfl, hC, hdr, hR, on, hLl, hjK, hsz, hps, hg⟩ := hrel
    have hjb : (j : Int) ≤ 9223372036854775807 := by omega
    obtain ⟨lv, gv, GL, b⟩ := id hR.b
    by_cases hj0 : j = 0
    · subst hj0
      go_wp2_with fail
      go_ret
      have e1 : C = L.flatten.take K := by rw [← hC]; simp
      refine ⟨by rw [e1]; rfl, ?_, on⟩
      rw [← hdr, Nat.zero_min, drn_zero]
      exact hR
    · have hj1 : (0 : Int) < j := by omega
      have hj1d : decide ((0 : Int) < (j : Int)) = true := decide_eq_true hj1
      cases L' with
      | nil =>
        obtain ⟨la, lc, rfl⟩ := owns_form b.ol
        have y2 := b.cells 2
        simp only [rrCells, List.getElem?_toArray, List.getElem?_cons_succ, List.getElem?_cons_zero] at y2
        go_wp2_with fail
        go_ret
        have e1 : C = L.flatten.take K := by rw [← hC]; simp
        refine ⟨by rw [e1]; rfl, ?_, on⟩
        rw [← hdr]
        simp only [List.flatten_nil, List.length_nil, Nat.min_zero, drn_zero]
        exact hR
      | cons x t =>
        have hx1 : 1 ≤ x.length := List.length_pos_iff.2 (hps x (by simp))
        obtain ⟨g0, c, hlv, hnc, hcm, hg0, hcc⟩ := b.at (by simp)
        subst hlv
        have hlen1 : (x :: t).length = t.length + 1 := rfl
        rw [hlen1] at b hnc hLl hg
        have y2 := b.cells 2
        have y3 := b.cells 3
        have z3 := b.frozen 3
        simp only [rrCells, List.getElem?_toArray, List.getElem?_cons_succ, List.getElem?_cons_zero] at y2 y3
        obtain ⟨_, _, d0, hsrc⟩ := b.tail_src
        clear hcc
        obtain ⟨N, hN⟩ : ∃ N, N = t.length := ⟨_, rfl⟩
        obtain ⟨X, hX⟩ : ∃ X, X = toB x := ⟨_, rfl⟩
        obtain ⟨D, hD⟩ : ∃ D, D = toB C := ⟨_, rfl⟩
        have hXs : X.size = x.length := by rw [hX, toB_size]
        have hDs : D.size = C.length := by rw [hD, toB_size]
        rw [← hN] at y2 hsrc hnc hLl hg
        rw [← hX] at d0
        try rw [← hD]
        have hsz2 : C.length + (x.length + t.flatten.length) ≤ 1000000000 := by rw [List.flatten_cons, List.length_append] at hsz; exact hsz
        have hz2' : D.size + X.size ≤ maxLen := by unfold maxLen; omega
        have hz3 : ((D.size : Int) + X.size) ≤ 9223372036854775807 := by omega
        have hN1 : (0 : Int) < (N : Int) + 1 := by omega
        have hft := hR.foot
        have HB := Lib.hid (And.intro b (And.intro hN (And.intro hX (And.intro hD (And.intro hC hdr)))))
        have hN1d : decide ((0 : Int) < (N : Int) + 1) = true := decide_eq_true hN1
        have hw1 : IntKind.i64.wrap 1 = 1 := by decide
        have hle1 : (1 : Int) ≤ (N : Int) + 1 := by omega
        have hle2 : (1 : Int) ≤ (c : Int) := by omega
        have hms : m < wr.heap.size := blk_lt b.me
        have hal0 := (Below.refl wr.heap.size wr).alloc (Nat.le_refl _) (.cells #[] 9)
        have hlit := World.ownsRow_lit (e := 9) (base := wr.heap.size) (size := 1) wr #[] 0 (Nat.le_refl _) (by decide) rfl
        have hxlen : x.length = X.size := hXs.symm
        have hjx : (x.length ≤ j) = (X.size ≤ j) := by rw [hXs]
        have HXS := Lib.hid (And.intro hXs hDs)
        rw [← hXs] at hsz2 hx1
        rw [← hDs] at hsz2
        have y2a := (hal0.cell (p := ⟨m, 2, none⟩) hms).trans y2
        clear b hR hN hX hD hC hdr hsz hXs hDs hxlen hjx
        by_cases hxj : X.size ≤ j
        · have hxj' : ¬ (j : Int) < X.size := by omega
          have hxj2 : (X.size : Int) ≤ j := by omega
          have hxd : decide ((X.size : Int) ≤ (j : Int)) = true := decide_eq_true hxj2
          have hwj : IntKind.i64.wrap ((j : Int) - X.size) = (j : Int) - X.size := IntWalk.i64_in _ (by omega)
          go_upto_region 6 with fail
          by_cases hc1 : c = 1
          · rw [if_pos hc1] at hsrc
            have hN0 : N = 0 := by omega
            subst hN0
            subst hc1
            have hsrc2 : Src wr (.slice (some ⟨g0, 0, none⟩) 0 0) 0 (sv (bL t)) := hsrc
            have hsr := src_keepR hsrc2 hg0 hal0
            go_upto_region 7 with (at_builtin; (refine list_append rfl (.tmp 44) (.tmp 49) 62 rfl wr.heap.size (by simp) 9 i0 _ 1 16 ul_strs hi hz0 hz1 hz2 rfl (by decide) (.slice (some ⟨wr.heap.size, 0, none⟩) 0 0) 0 [] rfl hlit _ 0 (sv (bL t)) rfl (by rw [svb_len, ← HB.out.2.1]) hsr (sv_one _) (by unfold maxLen; omega) (by omega) ?_); intro ao8 cp8 w15 hown8 hg8 hat8; simp only [Nat.zero_add, List.nil_append] at hown8; have k15 := below_append hal0 hlit hg8 (by simp); have hnw := HB.out.1.newL (v' := .slice ao8 0 cp8) (L' := t) hft k15 (by rw [← HB.out.2.1]; exact hown8) false (by simp); have y2' := hnw.2.1; rw [← HB.out.2.1] at y2'; have z2' := hnw.2.2.1; have HNW := Lib.hid hnw; clear hnw hown8 hg8 hat8)
            have y3' := cell_blk HNW.out.1 3
            have z3' := frozen_blk HNW.out.1 3
            simp only [rrCells, List.getElem?_toArray, List.getElem?_cons_succ, List.getElem?_cons_zero] at y3'
            go_wp2_with fail
            obtain ⟨_, _, _, bF, onF⟩ := HNW.out
            obtain ⟨_, hN, hX, hD, hC, hdr⟩ := HB.out
            obtain ⟨hXs, hDs⟩ := HXS.out
            obtain ⟨gg, rfl⟩ : ∃ gg, gk = gg + 1 := ⟨gk - 1, by omega⟩
            go_roundg gg
            case measure => have := hg; split at this <;> omega
            case rel =>
              have onW := only_on2 on onF
              refine ⟨j - x.length, t, false, C ++ x, by congr 1; omega, by rw [toB_app, ← hX, ← hD], ?_, ?_, ⟨⟨_, _, _, bF.mono (grow_on2 on.size onF.size)⟩, grow_lt HH.out.foot onW.size⟩, onW, by omega, by omega, by rw [List.length_append]; omega, fun y hy => hps y (by simp [hy]), ?_⟩
              · rw [← hC, List.flatten_cons, List.take_append, List.take_of_length_le (l := x) (by omega), List.append_assoc]
              · rw [← hdr, List.flatten_cons, List.length_append, drn_ge _ _ (by omega) (by omega)]
                congr 1
                omega
              · have := hg
                rw [if_neg hj0] at this
                split <;> omega
          · rw [if_neg hc1] at hsrc
            have hsr := src_keepR hsrc hg0 hal0
            go_upto_region 7 with (at_builtin; (refine list_append rfl (.tmp 44) (.tmp 49) 62 rfl wr.heap.size (by simp) 9 i0 _ 1 16 ul_strs hi hz0 hz1 hz2 rfl (by decide) (.slice (some ⟨wr.heap.size, 0, none⟩) 0 0) 0 [] rfl hlit _ N (sv (bL t)) rfl (by rw [svb_len, ← HB.out.2.1]) hsr (sv_one _) (by unfold maxLen; omega) (by omega) ?_); intro ao8 cp8 w15 hown8 hg8 hat8; simp only [Nat.zero_add, List.nil_append] at hown8; have k15 := below_append hal0 hlit hg8 (by simp); have hnw := HB.out.1.newL (v' := .slice ao8 N cp8) (L' := t) hft k15 (by rw [← HB.out.2.1]; exact hown8) false (by simp); have y2' := hnw.2.1; rw [← HB.out.2.1] at y2'; have z2' := hnw.2.2.1; have HNW := Lib.hid hnw; clear hnw hown8 hg8 hat8)
            have y3' := cell_blk HNW.out.1 3
            have z3' := frozen_blk HNW.out.1 3
            simp only [rrCells, List.getElem?_toArray, List.getElem?_cons_succ, List.getElem?_cons_zero] at y3'
            go_wp2_with fail
            obtain ⟨_, _, _, bF, onF⟩ := HNW.out
            obtain ⟨_, hN, hX, hD, hC, hdr⟩ := HB.out
            obtain ⟨hXs, hDs⟩ := HXS.out
            obtain ⟨gg, rfl⟩ : ∃ gg, gk = gg + 1 := ⟨gk - 1, by omega⟩
            go_roundg gg
            case measure => have := hg; split at this <;> omega
            case rel =>
              have onW := only_on2 on onF
              refine ⟨j - x.length, t, false, C ++ x, by congr 1; omega, by rw [toB_app, ← hX, ← hD], ?_, ?_, ⟨⟨_, _, _, bF.mono (grow_on2 on.size onF.size)⟩, grow_lt HH.out.foot onW.size⟩, onW, by omega, by omega, by rw [List.length_append]; omega, fun y hy => hps y (by simp [hy]), ?_⟩
              · rw [← hC, List.flatten_cons, List.take_append, List.take_of_length_le (l := x) (by omega), List.append_assoc]
              · rw [← hdr, List.flatten_cons, List.length_append, drn_ge _ _ (by omega) (by omega)]
                congr 1
                omega
              · have := hg
                rw [if_neg hj0] at this
                split <;> omega
        · have hxj' : (j : Int) < X.size := by omega
          have hxd : decide ((X.size : Int) ≤ (j : Int)) = false := decide_eq_false (by omega)
          have hmin : min j X.size = j := by omega
          have hxj3 : (j : Int) ≤ X.size := by omega
          have hz5 : D.size + j ≤ maxLen := by unfold maxLen; omega
          have hz6 : ((D.size : Int) + j) ≤ 9223372036854775807 := by omega
          go_upto_region 9 with fail
          obtain ⟨Q, hQQ⟩ : ∃ Q, Q = X.extract j X.size := ⟨_, rfl⟩
          have HQQ := Lib.hid hQQ
          have hQQ' := hQQ.symm
          clear hQQ
          have halQ := (Below.refl wr.heap.size wr).alloc (Nat.le_refl _) (.cells #[.string Q] 9)
          have hlitQ : (wr.drew.alloc (.cells #[.string Q] 9)).ownsRow wr.heap.size 9 1 (.slice (some ⟨wr.heap.size, 0, none⟩) 1 1) 1 (sv [Q]) := World.ownsRow_lit (e := 9) (base := wr.heap.size) (size := 1) wr.drew #[.string Q] 1 (Nat.le_refl _) (by decide) rfl
          have y2q := (halQ.cell (p := ⟨m, 2, none⟩) hms).trans y2
          have d0q := (halQ.cell (p := ⟨g0, 0, none⟩) hg0).trans d0
          by_cases hc1 : c = 1
          · rw [if_pos hc1] at hsrc
            have hN0 : N = 0 := by omega
            subst hN0
            subst hc1
            have hsrc2 : Src wr (.slice (some ⟨g0, 0, none⟩) 0 0) 0 (sv (bL t)) := hsrc
            have hsrQ := src_keepR hsrc2 hg0 (halQ.drew)
            have hsrQ2 : Src (wr.drew.alloc (.cells #[.string Q] 9)) (.slice (some ⟨g0, 0, none⟩) 0 0) 0 (sv (bL t)) := hsrQ
            go_cut [6] from 7 to 87 (fun s6 wx => ∃ ao8 cp8, s6 = .slice ao8 (0 + 1) cp8 ∧ wx.ownsRow wr.heap.size 9 1 (.slice ao8 (0 + 1) cp8) (0 + 1) (sv [Q] ++ sv (bL t)) ∧ Below wr.heap.size wr wx)
            case first =>
              go_region_law (first | (refine step_append rfl (.tmp 74) (.tmp 79) 62 rfl wr.heap.size (by simp) 9 i0 _ 1 16 ul_strs hi hz0 hz1 hz2 rfl (by decide) (.slice (some ⟨wr.heap.size, 0, none⟩) 1 1) 1 (sv [Q]) rfl hlitQ _ 0 (sv (bL t)) rfl (by rw [svb_len, ← HB.out.2.1]) hsrQ2 (sv_one _) (by unfold maxLen; omega) (by omega) ?_; intro ao8 cp8 w15 hown8 hg8 hat8; have k15 := below_append halQ.drew hlitQ hg8 (by simp)))
              all_goals (go_wp2_with fail; go_meet; exact ⟨ao8, cp8, by first | rfl | (congr 1; omega), by first | exact hown8 | (rw [Nat.add_comm 1] at hown8; exact hown8), k15⟩)
            case rest =>
              obtain ⟨ao8, cp8, rfl, hown8, k15⟩ := hcut
              have hnw := HB.out.1.newL (v' := .slice ao8 (0 + 1) cp8) (L' := x.drop j :: t) hft k15 (by
                have e1 : sv [Q] ++ sv (bL t) = sv (bL (x.drop j :: t)) := by
                  have : toB (x.drop j) = Q := by rw [toB_drop, ← HB.out.2.2.1]; exact HQQ.out.symm
                  simp [sv, bL, this]
                rw [← e1, List.length_cons, ← HB.out.2.1]
                exact hown8) true (fun _ => by simp)
              have y2' := hnw.2.1
              rw [← HB.out.2.1] at y2'
              have z2' := hnw.2.2.1
              have HNW := Lib.hid hnw
              clear hnw hown8
              have y3' := cell_blk HNW.out.1 3
              have z3' := frozen_blk HNW.out.1 3
              simp only [rrCells, List.getElem?_toArray, List.getElem?_cons_succ, List.getElem?_cons_zero] at y3'
              go_wp2_with fail
              obtain ⟨_, _, _, bF, onF⟩ := HNW.out
              obtain ⟨_, hN, hX, hD, hC, hdr⟩ := HB.out
              obtain ⟨hXs, hDs⟩ := HXS.out
              obtain ⟨gg, rfl⟩ : ∃ gg, gk = gg + 1 := ⟨gk - 1, by omega⟩
              go_roundg gg
              case measure => have := hg; rw [if_neg hj0] at this; omega
              case rel =>
                have onW := only_on2 on onF
                have hxl : j < x.length := by omega
                refine ⟨0, x.drop j :: t, true, C ++ x.take j, rfl, by rw [toB_app, toB_take, ← hX, ← hD], ?_, ?_, ⟨⟨_, _, _, bF.mono (grow_on2 on.size onF.size)⟩, grow_lt HH.out.foot onW.size⟩, onW, by rw [List.length_cons]; omega, Nat.zero_le _, by rw [List.length_append, List.flatten_cons, List.length_append, List.length_take, List.length_drop]; omega, ?_, ?_⟩
                · rw [← hC, List.take_zero, List.append_nil]
                  congr 1
                  rw [List.flatten_cons, List.take_append_of_le_length (by omega)]
                · have e2 : min j (x :: t).flatten.length = j := by rw [List.flatten_cons, List.length_append]; omega
                  rw [← hdr, Nat.zero_min, drn_zero, e2, drn_lt _ _ (by omega) hxl]
                · intro y hy
                  rcases List.mem_cons.1 hy with hy | hy
                  · rw [hy]
                    intro q
                    have := congrArg List.length q
                    simp at this
                    omega
                  · exact hps y (by simp [hy])
                · have := hg
                  rw [if_neg hj0] at this
                  rw [if_pos rfl, List.length_cons]
                  omega
          · rw [if_neg hc1] at hsrc
            have hsrQ := src_keepR hsrc hg0 (halQ.drew)
            have hsrQ2 : Src (wr.drew.alloc (.cells #[.string Q] 9)) (.slice (some ⟨g0, 1, none⟩) N (c - 1)) N (sv (bL t)) := hsrQ
            go_cut [6] from 7 to 87 (fun s6 wx => ∃ ao8 cp8, s6 = .slice ao8 (N + 1) cp8 ∧ wx.ownsRow wr.heap.size 9 1 (.slice ao8 (N + 1) cp8) (N + 1) (sv [Q] ++ sv (bL t)) ∧ Below wr.heap.size wr wx)
            case first =>
              go_region_law (first | (refine step_append rfl (.tmp 74) (.tmp 79) 62 rfl wr.heap.size (by simp) 9 i0 _ 1 16 ul_strs hi hz0 hz1 hz2 rfl (by decide) (.slice (some ⟨wr.heap.size, 0, none⟩) 1 1) 1 (sv [Q]) rfl hlitQ _ N (sv (bL t)) rfl (by rw [svb_len, ← HB.out.2.1]) hsrQ2 (sv_one _) (by unfold maxLen; omega) (by omega) ?_; intro ao8 cp8 w15 hown8 hg8 hat8; have k15 := below_append halQ.drew hlitQ hg8 (by simp)))
              all_goals (go_wp2_with fail; go_meet; exact ⟨ao8, cp8, by first | rfl | (congr 1; omega), by first | exact hown8 | (rw [Nat.add_comm 1] at hown8; exact hown8), k15⟩)
            case rest =>
              obtain ⟨ao8, cp8, rfl, hown8, k15⟩ := hcut
              have hnw := HB.out.1.newL (v' := .slice ao8 (N + 1) cp8) (L' := x.drop j :: t) hft k15 (by
                have e1 : sv [Q] ++ sv (bL t) = sv (bL (x.drop j :: t)) := by
                  have : toB (x.drop j) = Q := by rw [toB_drop, ← HB.out.2.2.1]; exact HQQ.out.symm
                  simp [sv, bL, this]
                rw [← e1, List.length_cons, ← HB.out.2.1]
                exact hown8) true (fun _ => by simp)
              have y2' := hnw.2.1
              rw [← HB.out.2.1] at y2'
              have z2' := hnw.2.2.1
              have HNW := Lib.hid hnw
              clear hnw hown8
              have y3' := cell_blk HNW.out.1 3
              have z3' := frozen_blk HNW.out.1 3
              simp only [rrCells, List.getElem?_toArray, List.getElem?_cons_succ, List.getElem?_cons_zero] at y3'
              go_wp2_with fail
              obtain ⟨_, _, _, bF, onF⟩ := HNW.out
              obtain ⟨_, hN, hX, hD, hC, hdr⟩ := HB.out
              obtain ⟨hXs, hDs⟩ := HXS.out
              obtain ⟨gg, rfl⟩ : ∃ gg, gk = gg + 1 := ⟨gk - 1, by omega⟩
              go_roundg gg
              case measure => have := hg; rw [if_neg hj0] at this; omega
              case rel =>
                have onW := only_on2 on onF
                have hxl : j < x.length := by omega
                refine ⟨0, x.drop j :: t, true, C ++ x.take j, rfl, by rw [toB_app, toB_take, ← hX, ← hD], ?_, ?_, ⟨⟨_, _, _, bF.mono (grow_on2 on.size onF.size)⟩, grow_lt HH.out.foot onW.size⟩, onW, by rw [List.length_cons]; omega, Nat.zero_le _, by rw [List.length_append, List.flatten_cons, List.length_append, List.length_take, List.length_drop]; omega, ?_, ?_⟩
                · rw [← hC, List.take_zero, List.append_nil]
                  congr 1
                  rw [List.flatten_cons, List.take_append_of_le_length (by omega)]
                · have e2 : min j (x :: t).flatten.length = j := by rw [List.flatten_cons, List.length_append]; omega
                  rw [← hdr, Nat.zero_min, drn_zero, e2, drn_lt _ _ (by omega) hxl]
                · intro y hy
                  rcases List.mem_cons.1 hy with hy | hy
                  · rw [hy]
                    intro q
                    have := congrArg List.length q
                    simp at this
                    omega
                  · exact hps y (by simp [hy])
                · have := hg
                  rw [if_neg hj0] at this
                  rw [if_pos rfl, List.length_cons]
                  omega
end Go.Proofs.Ytbfipgeoecbpaaa
