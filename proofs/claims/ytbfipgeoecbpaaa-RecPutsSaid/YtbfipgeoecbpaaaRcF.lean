/- A recorder's Flush. No condition but those that each names. -/
import Derived.Test.YtbfipgeoecbpaaaRcM
namespace Go.Proofs.Ytbfipgeoecbpaaa
open Go.RowKit
set_option linter.unusedVariables false
set_option linter.unusedSimpArgs false
set_option maxRecDepth 20000
section
variable {w w' : World} {x tb rb room cap : Nat} {pol : Int} {R : Rcd} {L : List (List UInt8)} {lo : Nat} {F : Nat → Prop}
set_option maxHeartbeats 2000000 in
theorem flush_any (hpa : PutsAs pol) (h : RecP w x tb rb room cap pol R L lo F) (hn : R.fr.length ≤ 100000) : Calls Try.prog 15 #[.pointer (some ⟨x, 0, none⟩)] w (FlushPost w x tb rb room cap pol R L lo F) := by
  obtain ⟨vo, FR, m, hf⟩ := h.m
  have y0 := m.b.cells 0
  have y1 := m.b.cells 1
  have y3 := m.b.cells 3
  have y11 := m.b.cells 11
  obtain ⟨ao, c, hvo⟩ := owns_form m.b.own
  rw [hvo] at y3
  simp only [rcCells, List.getElem?_toArray, List.getElem?_cons_succ, List.getElem?_cons_zero] at y0 y1 y3 y11
  by_cases h0 : R.op = []
  · have hfl : R.flush = R := if_pos h0
    rw [h0] at y3
    have HF := Lib.hid hfl
    clear hfl
    go_enter Try.func15, Try.ntmps15
    go_wp2_with fail
    go_end0
    refine ⟨rfl, L, lo, .inl ⟨by rw [HF.out], rfl, rfl⟩, ?_, Only.refl _ _⟩
    rw [HF.out]
    exact h.same
  · obtain ⟨k1, k2, k3⟩ := m.inv.op h0
    have hrm := m.rm
    have hlen : (lB R.op).length ≤ 120 := by omega
    have hol : 0 < R.op.length := List.length_pos_iff.2 h0
    have hpr := fun wx (hsl : SlArgN wx ao R.op.length c 6 (fun i j => (R.op.getD i default).f j)) (hT : IsTab wx tb) => fprint_any wx tb hT R.fr.length (by omega) ao R.op.length c (fun i => R.op.getD i default) hsl (lOk_wf k1) (by
      have : R.op.length ≤ (lB R.op).length := by
        rw [← lB_prn]
        have key : ∀ n, n ≤ (prnC (fun i => R.op.getD i default) n).length := by
          intro n
          induction n with
          | zero => exact Nat.zero_le _
          | succ n ih =>
            rw [prnC, List.length_append]
            have := evb_pos (R.op.getD (n - 1) default) (R.op.getD n default)
            omega
        exact key _
      omega)
    go_enter Try.func15, Try.ntmps15
    go_upto_region 1 with fail
    have hne : ∀ k, F k → k ≠ w.heap.size := fun k hk e => by have := h.foot k hk; omega
    have HH := Lib.hid (And.intro h (And.intro m hf))
    have HK := Lib.hid (And.intro k1 (And.intro k2 k3))
    clear h hf k1 k2 k3
    obtain ⟨tabw, bw⟩ := And.intro m.tab m.b
    rw [hvo] at bw
    have hsl : SlArgN w ao R.op.length c 6 (fun i j => (R.op.getD i default).f j) := slArgN_own bw.own
    have hxs : x < w.heap.size := blk_lt bw.me
    have hpr := hpr w.drew (hsl.kept (Below.refl w.heap.size w).drew) (tabw.kept (Below.refl w.heap.size w).drew)
    clear bw m hsl
    obtain ⟨S, hS⟩ : ∃ S : ByteArray, S = ⟨(frS R.fr.length (fun i => R.op.getD i default) R.op.length).toArray⟩ := ⟨_, rfl⟩
    obtain ⟨E, hE⟩ : ∃ E : Int, E = frE (fun i => R.op.getD i default) R.op.length := ⟨_, rfl⟩
    rw [← hS, ← hE] at hpr
    have HS := Lib.hid (And.intro hS hE)
    clear hS hE
    obtain ⟨N, hN⟩ : ∃ N, N = R.fr.length := ⟨_, rfl⟩
    obtain ⟨O, hO⟩ : ∃ O, O = R.op.length := ⟨_, rfl⟩
    rw [← hO] at y3
    rw [← hN] at y11
    rw [← hN, ← hO] at hpr
    have HN := Lib.hid (And.intro hN hO)
    have hwr : IntKind.u32.wrap (N : Int) = N := by rw [IntKind.wrap_u32]; omega
    clear hN hO hvo
    have H : w.cell? ⟨x, 0, none⟩ = some (.pointer (some ⟨tb, 0, none⟩)) ∧ w.cell? ⟨x, 1, none⟩ = some (.pointer (some ⟨rb, 0, none⟩)) ∧ w.cell? ⟨x, 3, none⟩ = some (.slice ao O c) ∧ w.cell? ⟨x, 11, none⟩ = some (.int .i64 N) := ⟨y0, y1, y3, y11⟩
    clear y0 y1 y3 y11
    go_region_held3 (fun w' => w'.cell? ⟨x, 0, none⟩ = some (.pointer (some ⟨tb, 0, none⟩)) ∧ w'.cell? ⟨x, 1, none⟩ = some (.pointer (some ⟨rb, 0, none⟩)) ∧ w'.cell? ⟨x, 3, none⟩ = some (.slice ao O c) ∧ w'.cell? ⟨x, 11, none⟩ = some (.int .i64 N)) (first | exact H | exact H2) (first | (go_at_call 55; (with_reducible refine hpr.mono ?_); rintro e9 w9 ⟨rfl, hk9⟩; have H2 : w9.cell? ⟨x, 0, none⟩ = some (.pointer (some ⟨tb, 0, none⟩)) ∧ w9.cell? ⟨x, 1, none⟩ = some (.pointer (some ⟨rb, 0, none⟩)) ∧ w9.cell? ⟨x, 3, none⟩ = some (.slice ao O c) ∧ w9.cell? ⟨x, 11, none⟩ = some (.int .i64 N) := ⟨(hk9.cell (p := ⟨x, 0, none⟩) hxs).trans H.1, (hk9.cell (p := ⟨x, 1, none⟩) hxs).trans H.2.1, (hk9.cell (p := ⟨x, 3, none⟩) hxs).trans H.2.2.1, (hk9.cell (p := ⟨x, 11, none⟩) hxs).trans H.2.2.2⟩))
    clear hpr H
    obtain ⟨h, m, hf⟩ := HH.out
    have hk9 := (Below.refl w.heap.size w).drew.trans hk9
    have b9 := m.b.below hk9
    have r9 := m.ring.below hk9
    have t9 := m.tab.kept hk9
    have hs : S.data.toList = frT R.fr.length R.op := by rw [HS.out.1]; rfl
    have hsz : S.size = 59 + (lB R.op).length := by
      have := frT_len (seq := R.fr.length) HK.out.1 h0 hlen
      rw [← hs] at this
      rw [← this]; simp
    have hcnt := m.cnt
    have hrm := m.rm
    have hput := hpa w9 rb cap L lo FR r9 S (by omega) (by omega) (by omega)
    go_wp2_with fail
    refine hput.mono ?_
    rintro e10 w10 ⟨⟨k10, rfl⟩, ⟨L', lo', hrel, r10⟩, on10⟩
    rw [hs] at hrel
    have b10 := b9.only on10 m.xr m.vr
    have t10 := t9.only on10 m.tr
    have hxr : ¬ grow FR w9 w10 x := by
      rintro (q | q)
      · exact m.xr q
      · have := blk_lt b9.me; omega
    have htr : ¬ grow FR w9 w10 tb := by
      have := h.tb_lt
      have := hk9.size
      rintro (q | q)
      · exact m.tr q
      · omega
    have on : Only F w w10 := (Only.of_below hk9 F).trans (on10.mono fun k _ hk => hf k (.inr (.inr hk))) fun _ _ x => x
    have hcn := hrel.cnt (by rw [← hs]; simp; omega) (by rw [← hs]; simp; omega)
    have hgr : ∀ k, grow FR w9 w10 k → grow F w w10 k := by
      rintro k (q | q)
      · exact .inl (hf k (.inr (.inr q)))
      · have := hk9.size
        exact .inr ⟨by omega, q.2⟩
    have HW := Lib.hid (And.intro b10 (And.intro t10 (And.intro r10 (And.intro hxr (And.intro htr (And.intro on (And.intro hcn (And.intro hgr hrel))))))))
    have y11 := b10.cells 11
    have z11 := b10.frozen 11
    simp only [rcCells, List.getElem?_toArray, List.getElem?_cons_succ, List.getElem?_cons_zero] at y11
    clear b9 r9 t9 hput r10 on10 b10 t10 hxr htr on hcn hgr hrel hk9 hcnt h m hf H2
    go_upto_region 4 with fail
    rw [show ((R.fr.length : Int) + 1) = ((R.fr.length + 1 : Nat) : Int) by omega]
    obtain ⟨b10, t10, r10, hxr, htr, on, hcn, hgr, hrel⟩ := HW.out
    have hxt : tb ≠ x := fun e => HH.out.1.tb (e ▸ HH.out.2.2 x (.inl rfl))
    have hFx : F x := HH.out.2.2 x (.inl rfl)
    have keep : ∀ {W : World} (i : Nat) (v : Value), RingL W rb cap pol L' false lo' (grow FR w9 w10) ∧ IsTab W tb ∧ Only F w W → RingL (W.setCell ⟨x, i, none⟩ v) rb cap pol L' false lo' (grow FR w9 w10) ∧ IsTab (W.setCell ⟨x, i, none⟩ v) tb ∧ Only F w (W.setCell ⟨x, i, none⟩ v) := by
      intro W i v hh
      have o := (Only.refl (fun k => k = x) W).setCell ⟨x, i, none⟩ v fun _ => rfl
      exact ⟨hh.1.only o fun k hk e => hxr (e ▸ hk), hh.2.1.only o hxt, hh.2.2.setCell ⟨x, i, none⟩ v fun _ => hFx⟩
    have b11 := b10.setN (R.fr.length + 1)
    have k11 := keep 11 (.int .i64 ((R.fr.length + 1 : Nat) : Int)) ⟨r10, t10, on⟩
    have s11 : (w10.setCell ⟨x, 11, none⟩ (.int .i64 ((R.fr.length + 1 : Nat) : Int))).heap.size = w10.heap.size := by simp [World.setCell]
    clear HW b10 r10 t10 on y11 z11
    generalize w10.setCell ⟨x, 11, none⟩ (.int .i64 ((R.fr.length + 1 : Nat) : Int)) = w11 at *
    have y3 := b11.cells 3
    have y4 := b11.cells 4
    have z3 := b11.frozen 3
    have z4 := b11.frozen 4
    simp only [rcCells, List.getElem?_toArray, List.getElem?_cons_succ, List.getElem?_cons_zero] at y3 y4
    go_wp2_with fail
    have b12 := b11.nilOp
    have k12 := keep 3 (.slice none 0 0) k11
    have b13 := b12.setSz 0
    have k13 := keep 4 (.int .i64 (0 : Nat)) k12
    have hfl : R.flush = { R with fr := R.fr ++ [R.op], op := [] } := if_neg h0
    go_end0
    refine ⟨rfl, L', lo', .inr ⟨by rw [hfl], h0, hrel⟩, ?_, k13.2.2⟩
    have s13 : (((w11.setCell ⟨x, 3, none⟩ (.slice none 0 0)).setCell ⟨x, 4, none⟩ (.int .i64 (0 : Nat)))).heap.size = w10.heap.size := by simp [World.setCell, s11]
    refine ⟨⟨.slice none 0 0, grow FR w9 w10, { b := ?_, tab := k13.2.1, ring := k13.1, xr := hxr, tr := htr, vr := fun g hg => (by cases hg), inv := HH.out.2.1.inv.flush, rm := hrm, pl := HH.out.2.1.pl, cnt := ?_ }, ?_⟩, ?_, grow_tb HH.out.1⟩
    · rw [hfl]
      have e : (R.fr ++ [R.op]).length = R.fr.length + 1 := by simp
      show RcB _ x tb rb room _ [] (lB []).length R.last (R.fr ++ [R.op]).length R.cl
      rw [e]
      exact b13
    · rw [hfl]
      have := HH.out.2.1.cnt
      show lo' + L'.length = (R.fr ++ [R.op]).length
      simp
      omega
    · rintro k (rfl | q | q)
      · exact .inl hFx
      · cases q
      · have := hgr k q
        rcases this with q | q
        · exact .inl q
        · exact .inr ⟨q.1, Nat.lt_of_lt_of_le q.2 (Nat.le_of_eq s13.symm)⟩
    · exact grow_lt HH.out.1.foot k13.2.2.size
end
end Go.Proofs.Ytbfipgeoecbpaaa
