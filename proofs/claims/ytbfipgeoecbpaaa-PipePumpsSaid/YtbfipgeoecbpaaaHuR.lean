/- Contract of taffrailref09's Go. No condition but those that it names. (Printed by gen_hur.py.) -/
import Derived.Test.YtbfipgeoecbpaaaHuH
namespace Go.Proofs.Ytbfipgeoecbpaaa
open Go.RowKit
set_option linter.unusedVariables false
set_option linter.unusedSimpArgs false
set_option maxRecDepth 20000
/-- Block m is the reference's hunter. -/
def IsRh (w : World) (m : Nat) (T : ByteArray) (p nx sk lo : Nat) (cl : Bool) : Prop := w.heap[m]? = some (.cells #[.string T, .int .i64 p, .int .u64 nx, .int .u64 sk, .int .u64 lo, .bool cl] 85 (0, 0))
section
variable {w : World} {m : Nat} {T : ByteArray} {p nx sk lo : Nat} {cl : Bool}
theorem IsRh.cells (h : IsRh w m T p nx sk lo cl) : w.cell? ⟨m, 0, none⟩ = some (.string T) ∧ w.cell? ⟨m, 1, none⟩ = some (.int .i64 p) ∧ w.cell? ⟨m, 2, none⟩ = some (.int .u64 nx) ∧ w.cell? ⟨m, 3, none⟩ = some (.int .u64 sk) ∧ w.cell? ⟨m, 4, none⟩ = some (.int .u64 lo) ∧ w.cell? ⟨m, 5, none⟩ = some (.bool cl) := by
  refine ⟨?_, ?_, ?_, ?_, ?_, ?_⟩ <;> (rw [cell_blk h]; rfl)
theorem IsRh.frozen (h : IsRh w m T p nx sk lo cl) (i : Nat) : w.frozen? ⟨m, i, none⟩ = false := frozen_blk h i
theorem IsRh.below {w' : World} (h : IsRh w m T p nx sk lo cl) (k : Below w.heap.size w w') : IsRh w' m T p nx sk lo cl := (k.block m (blk_lt h)).trans h
theorem IsRh.only {S : Nat → Prop} {w' : World} (h : IsRh w m T p nx sk lo cl) (o : Only S w w') (hm : ¬ S m) : IsRh w' m T p nx sk lo cl := o.keeps h hm
theorem IsRh.set0 (h : IsRh w m T p nx sk lo cl) (Z : ByteArray) : IsRh (w.setCell ⟨m, 0, none⟩ (.string Z)) m Z p nx sk lo cl := blk_setCell h (i := 0) (.string Z)
theorem IsRh.set1 (h : IsRh w m T p nx sk lo cl) (n : Nat) : IsRh (w.setCell ⟨m, 1, none⟩ (.int .i64 n)) m T n nx sk lo cl := blk_setCell h (i := 1) (.int .i64 n)
theorem IsRh.set2 (h : IsRh w m T p nx sk lo cl) (n : Nat) : IsRh (w.setCell ⟨m, 2, none⟩ (.int .u64 n)) m T p n sk lo cl := blk_setCell h (i := 2) (.int .u64 n)
theorem IsRh.set3 (h : IsRh w m T p nx sk lo cl) (n : Nat) : IsRh (w.setCell ⟨m, 3, none⟩ (.int .u64 n)) m T p nx n lo cl := blk_setCell h (i := 3) (.int .u64 n)
theorem IsRh.set4 (h : IsRh w m T p nx sk lo cl) (n : Nat) : IsRh (w.setCell ⟨m, 4, none⟩ (.int .u64 n)) m T p nx sk n cl := blk_setCell h (i := 4) (.int .u64 n)
theorem IsRh.set5 (h : IsRh w m T p nx sk lo cl) (c : Bool) : IsRh (w.setCell ⟨m, 5, none⟩ (.bool c)) m T p nx sk lo c := blk_setCell h (i := 5) (.bool c)
theorem IsRh.grow {w' : World} {base : Nat} {e : TypeId} {size : Nat} {v : Value} {n : Nat} {xs : List Value} (h : IsRh w m T p nx sk lo cl) (hI : w.ownsRow base e size v n xs) (hb : m < base) (hg : w.grownBy w' v.ownBlock) : IsRh w' m T p nx sk lo cl :=
  (hg.block m (blk_lt h) fun x => by have := (hI.lt m x.symm).1; omega).trans h
end
theorem own_keepH {w w' : World} {base' : Nat} {e' : TypeId} {size' : Nat} {v' : Value} {n' : Nat} {xs' : List Value} {k : Nat} {C : Array Value} {e : TypeId} {fz : Nat × Nat} (hI : w.ownsRow base' e' size' v' n' xs') (hk : w.heap[k]? = some (.cells C e fz)) (hne : e ≠ e') (hg : w.grownBy w' v'.ownBlock) : w'.heap[k]? = some (.cells C e fz) := by
  refine (hg.block k (blk_lt hk) fun x => ?_).trans hk
  rcases hI.2 with ⟨h1, _⟩ | ⟨g', cap', cur', rfl, _, hb', _⟩
  · rw [h1] at x; cases x
  · have x2 : g' = k := Eq.symm (by simpa [Value.ownBlock] using x)
    subst x2
    rw [hk] at hb'
    simp only [Option.some.injEq, Obj.cells.injEq] at hb'
    exact hne hb'.2.1
/-- Where the reference's Go stands. -/
structure RgoSt (w : World) (m : Nat) (T : ByteArray) (cl : Bool) (p nx sk lo : Nat) (out : Value) (its : List Itm) (wr : World) : Prop where
  hu : IsRh wr m T p nx sk lo cl
  only : Only (fun k => k = m) w wr
  it : ItIn wr w.heap.size out its
  lo : m < w.heap.size
section
variable {w : World} {m : Nat} {T : ByteArray} {cl : Bool} {p nx sk lo : Nat} {out : Value} {its : List Itm} {wr : World}
theorem RgoSt.below {w2 : World} (h : RgoSt w m T cl p nx sk lo out its wr) (k : Below wr.heap.size wr w2) : RgoSt w m T cl p nx sk lo out its w2 :=
  { h with hu := h.hu.below k, only := h.only.trans (Only.of_below k (fun _ => False)) fun _ _ x => x.elim, it := h.it.below k }
theorem RgoSt.set {p' nx' sk' lo' : Nat} (h : RgoSt w m T cl p nx sk lo out its wr) (j : Nat) (v : Value) (hh : IsRh (wr.setCell ⟨m, j, none⟩ v) m T p' nx' sk' lo' cl) : RgoSt w m T cl p' nx' sk' lo' out its (wr.setCell ⟨m, j, none⟩ v) :=
  have hl := h.lo
  { hu := hh
    only := h.only.setCell _ _ fun _ => rfl
    it := h.it.only ((Only.refl (fun k => k = m) wr).setCell _ _ fun _ => rfl) fun k hk => by rw [hk]; exact hl
    lo := hl }
theorem RgoSt.grow {w2 : World} {out' : Value} {ms : List Itm} (h : RgoSt w m T cl p nx sk lo out its wr) (hm : ∀ x ∈ ms, EvIn wr w.heap.size x) (hg : wr.grownBy w2 out.ownBlock) (ho : w2.ownsRow w.heap.size 49 4 out' (its.length + ms.length) (itCells its ++ itCells ms)) : RgoSt w m T cl p nx sk lo out' (its ++ ms) w2 :=
  have hl := h.lo
  { hu := h.hu.grow h.it.own hl hg
    only := h.only.grown hg fun k hk hlt => by have := (h.it.own.lt k hk).1; omega
    it := h.it.grow hm hg ho
    lo := hl }
end
/-- What Go answers. -/
def RgPost (w : World) (m : Nat) (T : ByteArray) (cl : Bool) (R : HS) (x : Ending) (w' : World) : Prop :=
  ∃ ao cap its, x = .returned (.slice ao its.length cap) ∧ its.map Itm.p = R.its ∧ ItIn w' w.heap.size (.slice ao its.length cap) its ∧ IsRh w' m T R.p R.nx R.sk R.lo cl ∧ Only (fun k => k = m) w w'
/-- The loop's relation. -/
def RgL (w : World) (m : Nat) (T : ByteArray) (cl : Bool) (sk0 : Nat) (R : HS) (g : Nat) (out : Value) (wr : World) : Prop :=
  ∃ S its, RgoSt w m T cl S.p S.nx S.sk S.lo out its wr ∧ its.map Itm.p = S.its ∧ hfin T cl S = R ∧ S.Ok T ∧ S.sk ≤ sk0 + S.p ∧ T.size - S.p ≤ g ∧ its.length ≤ 2 * S.p
set_option maxHeartbeats 4000000 in
theorem rgo_any (w : World) (m : Nat) (T : ByteArray) (p nx sk lo : Nat) (cl : Bool) (hH : IsRh w m T p nx sk lo cl) (hp : p ≤ T.size) (hs : T.size ≤ 1000000000) (hsk : sk ≤ 1000000000000000) (hnx : nx ≤ 4294967296) (hlo : lo ≤ nx) :
    Calls Try.prog 51 #[.pointer (some ⟨m, 0, none⟩)] w (RgPost w m T cl (hfin T cl ⟨[], p, nx, sk, lo⟩)) := by
  obtain ⟨i0, hi, hz0, hz1, hz2⟩ := itm_info
  have hlit := World.ownsRow_lit (e := 49) (base := w.heap.size) (size := 4) w #[] 0 (Nat.le_refl _) (by decide) rfl
  have hal := (Below.refl w.heap.size w).alloc (Nat.le_refl _) (.cells #[] 49)
  have st0 : RgoSt w m T cl p nx sk lo (.slice (some ⟨w.heap.size, 0, none⟩) 0 0) [] (w.alloc (.cells #[] 49)) :=
    { hu := hH.below hal, only := (Only.refl _ w).alloc _, it := ⟨hlit, fun x hx => by cases hx⟩, lo := blk_lt hH }
  have ok0 : HS.Ok T ⟨[], p, nx, sk, lo⟩ := ⟨hp, hnx, hlo⟩
  obtain ⟨R, hR⟩ : ∃ R, R = hfin T cl ⟨[], p, nx, sk, lo⟩ := ⟨_, rfl⟩
  rw [← hR]
  have HR := Lib.hid hR
  have HSZ := Lib.hid (And.intro hs hsk)
  clear hR hs hH hnx hlo hlit hal hp hsk
  go_enter Try.func51, Try.ntmps51
  go_wp2_with fail
  go_loopg [3] (T.size) (fun g out wr => RgL w m T cl sk R g out wr)
  case atStart => exact ⟨_, [], st0, rfl, HR.out.symm, ok0, by simp, by simp, by simp⟩
  case round =>
    clear st0 ok0 HR
    obtain ⟨S, its, st, hmap, hfin_, hok, hskp, hg, hil⟩ := hrel
    have HF := Lib.hid (And.intro hfin_ (And.intro hok hmap))
    have HG := Lib.hid hg
    have hpl := hok.p
    clear hfin_ hok hg hmap
    obtain ⟨y0, y1, y2, y3, y4, y5⟩ := st.hu.cells
    by_cases hp : S.p < T.size
    · have hp' : (S.p : Int) < T.size := by omega
      go_upto_region 2 with fail
      go_quiet (fail)
      have st1 := st.below (kept_drewN wr nq)
      generalize wr.drewN nq = w1 at st1 ⊢
      clear st y0 y1 y2 y3 y4 y5
      obtain ⟨y0, y1, y2, y3, y4, y5⟩ := st1.hu.cells
      obtain ⟨⟨k, sq, l, nx2⟩, hr⟩ : ∃ r, r = frR T S.p := ⟨_, rfl⟩
      have hrd := fun W => rfread_any W T HSZ.out.1 (S.p : Int)
      rw [← hr] at hrd
      unfold FrPost at hrd
      simp only at hrd
      have HRR := Lib.hid hr
      clear hr
      have hc : w1.cell? ⟨m, 0, none⟩ = some (.string T) ∧ w1.cell? ⟨m, 1, none⟩ = some (.int .i64 S.p) := ⟨y0, y1⟩
      go_upto_region 3 with fail
      have stD := st1.below ((Below.refl w1.heap.size w1).drew)
      have stA := st1.below (((Below.refl w1.heap.size w1).alloc (Nat.le_refl _) (.cells #[.int .u32 0, .slice none 0 0] 110)).drew)
      have hcX : ∀ {W : World}, Below w1.heap.size w1 W → W.cell? ⟨m, 0, none⟩ = some (.string T) ∧ W.cell? ⟨m, 1, none⟩ = some (.int .i64 S.p) := fun k => ⟨(st1.below k).hu.cells.1, (st1.below k).hu.cells.2.1⟩
      go_cut [4, 5, 6] (fun f bh e wx => ∃ G ao cap, f = .pointer (some ⟨G, 0, none⟩) ∧ bh = .int .i64 nx2 ∧ e = .int .i64 k ∧ RgoSt w m T cl S.p S.nx S.sk S.lo u3 its wx ∧ wx.heap[G]? = some (.cells #[.int .u32 sq, .slice ao l.length cap] 110 (0, 0)) ∧ wx.ownsRow w.heap.size 25 6 (.slice ao l.length cap) l.length (evCells l) ∧ w.heap.size ≤ G)
      case first =>
        go_region_held (fun w' => w'.cell? ⟨m, 0, none⟩ = some (.string T) ∧ w'.cell? ⟨m, 1, none⟩ = some (.int .i64 S.p)) (first | exact hc | (refine hcX ?_; ((repeat (first | exact Below.refl _ _ | assumption | refine Below.drew ?_ | refine bel_set2 ?_ _ _ ?_ | refine Below.alloc ?_ ?_ _)); all_goals (first | exact Nat.le_refl _ | assumption | omega | (simp at *; omega))))) (first | (go_at_call 68; (refine (hrd _).mono ?_); rintro x w2 ⟨ao, cap, rfl, hown, hk⟩; have hkW : Below w1.heap.size w1 w2 := ((Below.refl w1.heap.size w1).drew).trans (hk.mono (Nat.le_refl _)); have hk1 := hk.size) | (go_at_call 68; (refine (hrd _).mono ?_); rintro x w2 ⟨ao, cap, rfl, hown, hk⟩; have hkW : Below w1.heap.size w1 w2 := (((Below.refl w1.heap.size w1).alloc (Nat.le_refl _) (.cells #[.int .u32 0, .slice none 0 0] 110)).drew).trans (hk.mono (by simp)); have hk1 := hk.size; have hGb : w2.heap[w1.heap.size]? = some (.cells #[.int .u32 0, .slice none 0 0] 110 (0, 0)) := (hk.block w1.heap.size (by simp)).trans (heap_alloc_new w1 _); have g0 := cell_blk hGb 0; have g1 := cell_blk hGb 1; have gf0 := frozen_blk hGb 0; have gf1 := frozen_blk hGb 1))
        all_goals (go_wp2_with fail; go_meet)
        · exact ⟨w2.heap.size, ao, cap, rfl, rfl, rfl, st1.below (by ((repeat (first | exact Below.refl _ _ | assumption | refine Below.drew ?_ | refine bel_set2 ?_ _ _ ?_ | refine Below.alloc ?_ ?_ _)); all_goals (first | exact Nat.le_refl _ | assumption | omega | (simp at *; omega)))), heap_alloc_new w2 _, World.ownsRow.mono (own_below hown ((Below.refl w2.heap.size w2).alloc (Nat.le_refl _) _)) st1.only.size, Nat.le_trans st1.only.size hkW.size⟩
        · exact ⟨w1.heap.size, ao, cap, rfl, rfl, rfl, st1.below (by ((repeat (first | exact Below.refl _ _ | assumption | refine Below.drew ?_ | refine bel_set2 ?_ _ _ ?_ | refine Below.alloc ?_ ?_ _)); all_goals (first | exact Nat.le_refl _ | assumption | omega | (simp at *; omega)))), blk_setCell (blk_setCell hGb (i := 0) (.int .u32 sq)) (i := 1) (.slice ao l.length cap), World.ownsRow.mono (own_set (own_set hown _ _ (by simp)) _ _ (by simp)) (Nat.le_trans st1.only.size (by simp)), st1.only.size⟩
      case rest =>
        obtain ⟨G, ao, cap, rfl, rfl, rfl, st2, hG, hown, hGl⟩ := hcut
        clear st1 stD stA hcX hc y0 y1 y2 y3 y4 y5 hrd
        obtain ⟨y0, y1, y2, y3, y4, y5⟩ := st2.hu.cells
        have g0 := cell_blk hG 0
        have g1 := cell_blk hG 1
        simp only [List.getElem?_toArray, List.getElem?_cons_zero, List.getElem?_cons_succ] at g0 g1
        by_cases k2 : k = 2
        · subst k2
          cases cl with
          | false =>
            have HST := Lib.hid (show hstop T false S = true by unfold hstop; rw [← HRR.out]; simp)
            obtain ⟨ao9, cap9, rfl⟩ := owns_form st2.it.own
            have hR9 := HF.out.1
            rw [hfin_stop HST.out] at hR9
            have HR9 := Lib.hid hR9
            clear hR9
            go_wp2_with fail
            go_ret
            refine ⟨ao9, cap9, its, rfl, ?_, ?_, ?_, ?_⟩
            · rw [← HR9.out]; exact HF.out.2.2
            · exact st2.it
            · rw [← HR9.out]; exact st2.hu
            · exact st2.only
          | true =>
            have hnst : hstop T true S = false := by unfold hstop; rw [← HRR.out]; simp; omega
            have hskip_ : hskip T S = true := by unfold hskip; rw [← HRR.out]; simp
            have HN := Lib.hid (hfin_next hnst)
            clear hnst
            have HN2 : hnext T S = { S with p := S.p + 1, sk := S.sk + 1 } := by unfold hnext; rw [if_pos hskip_]
            have HSK := Lib.hid HN2
            clear hskip_ HN2
            have z1 := st2.hu.frozen 1
            have z3 := st2.hu.frozen 3
            have hskw : IntKind.u64.wrap ((S.sk : Int) + 1) = (S.sk : Int) + 1 := by have := HSZ.out; rw [IntKind.wrap_u64]; omega
            have hpb : S.p ≤ 1000000000 := by have := HSZ.out; omega
            go_upto_region 6 with fail
            go_quiet (fail)
            have st3 := st2.below (kept_drewN wc nq)
            generalize wc.drewN nq = w3 at st3 ⊢
            clear st2 y0 y1 y2 y3 y4 y5 z1 z3
            obtain ⟨y0, y1, y2, y3, y4, y5⟩ := st3.hu.cells
            have z1 := st3.hu.frozen 1
            have z3 := st3.hu.frozen 3
            have st4 := (st3.set 1 _ (st3.hu.set1 (S.p + 1))).set 3 _ ((st3.hu.set1 (S.p + 1)).set3 (S.sk + 1))
            rw [show ((S.sk + 1 : Nat) : Int) = (S.sk : Int) + 1 by omega, show ((S.p + 1 : Nat) : Int) = (S.p : Int) + 1 by omega] at st4
            go_wp2_with fail
            obtain ⟨g, rfl⟩ : ∃ g, gk = g + 1 := ⟨gk - 1, by have := HG.out; omega⟩
            go_roundg g
            case measure => omega
            case rel =>
              have hok := HF.out.2.1.next hp
              rw [HSK.out] at hok
              exact ⟨{ S with p := S.p + 1, sk := S.sk + 1 }, its, st4, HF.out.2.2, by rw [← HSK.out, ← HN.out]; exact HF.out.1, hok, by simp only; omega, by have := HG.out; simp only; omega, by simp only; omega⟩
        · by_cases k0 : k = 0
          · subst k0
            have hsq : sq < 4294967296 := (frR_ok (Nat.le_of_lt hp) HRR.out.symm).2.2.1
            have hsw : IntKind.u64.wrap (sq : Int) = sq := by rw [IntKind.wrap_u64]; omega
            by_cases hlt : sq < S.nx
            · have hlt' : decide ((sq : Int) < (S.nx : Int)) = true := by simp; omega
              have hnst : hstop T cl S = false := by unfold hstop; rw [← HRR.out]; simp; omega
              have hskip_ : hskip T S = true := by unfold hskip; rw [← HRR.out]; simp; omega
              have HN := Lib.hid (hfin_next hnst)
              clear hnst
              have HN2 : hnext T S = { S with p := S.p + 1, sk := S.sk + 1 } := by unfold hnext; rw [if_pos hskip_]
              have HSK := Lib.hid HN2
              clear hskip_ HN2
              have z1 := st2.hu.frozen 1
              have z3 := st2.hu.frozen 3
              have hskw : IntKind.u64.wrap ((S.sk : Int) + 1) = (S.sk : Int) + 1 := by have := HSZ.out; rw [IntKind.wrap_u64]; omega
              have hpb : S.p ≤ 1000000000 := by have := HSZ.out; omega
              go_upto_region 6 with fail
              go_quiet (fail)
              have st3 := st2.below (kept_drewN wc nq)
              generalize wc.drewN nq = w3 at st3 ⊢
              clear st2 y0 y1 y2 y3 y4 y5 z1 z3
              obtain ⟨y0, y1, y2, y3, y4, y5⟩ := st3.hu.cells
              have z1 := st3.hu.frozen 1
              have z3 := st3.hu.frozen 3
              have st4 := (st3.set 1 _ (st3.hu.set1 (S.p + 1))).set 3 _ ((st3.hu.set1 (S.p + 1)).set3 (S.sk + 1))
              rw [show ((S.sk + 1 : Nat) : Int) = (S.sk : Int) + 1 by omega, show ((S.p + 1 : Nat) : Int) = (S.p : Int) + 1 by omega] at st4
              go_wp2_with fail
              obtain ⟨g, rfl⟩ : ∃ g, gk = g + 1 := ⟨gk - 1, by have := HG.out; omega⟩
              go_roundg g
              case measure => omega
              case rel =>
                have hok := HF.out.2.1.next hp
                rw [HSK.out] at hok
                exact ⟨{ S with p := S.p + 1, sk := S.sk + 1 }, its, st4, HF.out.2.2, by rw [← HSK.out, ← HN.out]; exact HF.out.1, hok, by simp only; omega, by have := HG.out; simp only; omega, by simp only; omega⟩
            · have hlt' : decide ((sq : Int) < (S.nx : Int)) = false := by simp; omega
              have hnst : hstop T cl S = false := by unfold hstop; rw [← HRR.out]; simp; omega
              have HN := Lib.hid (hfin_next hnst)
              clear hnst
              have hskip_ : hskip T S = false := by unfold hskip; rw [← HRR.out]; simp; omega
              have HN2 : hnext T S = ⟨S.its ++ told S.nx sq l, nx2, sq + 1, S.sk, S.lo + (sq - S.nx)⟩ := by unfold hnext; rw [hskip_, ← HRR.out]; rfl
              have HSK := Lib.hid HN2
              clear hskip_ HN2
              have hnxl : S.nx ≤ sq := by omega
              have hlol : S.lo ≤ 4294967296 := by have h1 := HF.out.2.1.lo; have h2 := HF.out.2.1.nx; omega
              have hnx2 : S.p + 60 ≤ nx2 := (frR_ok (Nat.le_of_lt hp) HRR.out.symm).1
              have hpb : S.p ≤ 1000000000 := by have := HSZ.out; omega
              have hnl : S.nx < 4294967296 := by omega
              have hw32 : IntKind.u32.wrap (S.nx : Int) = S.nx := by rw [IntKind.wrap_u32]; omega
              obtain ⟨d, hd⟩ : ∃ d : Nat, d = sq - S.nx := ⟨_, rfl⟩
              have hsub : IntKind.u64.wrap ((sq : Int) - S.nx) = (d : Int) := by rw [IntKind.wrap_u64]; omega
              have hd32 : IntKind.u32.wrap (d : Int) = d := by rw [IntKind.wrap_u32]; omega
              have hlw : IntKind.u64.wrap ((S.lo : Int) + d) = ((S.lo + d : Nat) : Int) := by rw [IntKind.wrap_u64]; omega
              have hqw : IntKind.u64.wrap ((sq : Int) + 1) = ((sq + 1 : Nat) : Int) := by rw [IntKind.wrap_u64]; omega
              have HD := Lib.hid hd
              clear hd k2
              go_upto_region 6 with fail
              go_quiet (fail)
              have st3 := st2.below (kept_drewN wc nq)
              have hG3 := blk_drewN hG nq
              have ho3 : (wc.drewN nq).ownsRow w.heap.size 25 6 (.slice ao l.length cap) l.length (evCells l) := hown
              generalize wc.drewN nq = w3 at st3 hG3 ho3 ⊢
              clear st2 hG hown g0 g1 y0 y1 y2 y3 y4 y5
              obtain ⟨y0, y1, y2, y3, y4, y5⟩ := st3.hu.cells
              have g0 := cell_blk hG3 0
              have g1 := cell_blk hG3 1
              simp only [List.getElem?_toArray, List.getElem?_cons_zero, List.getElem?_cons_succ] at g0 g1
              go_upto_region 9 with fail
              go_quiet (fail)
              have st4 := st3.below (kept_drewN w3 nq)
              have hG4 := blk_drewN hG3 nq
              have ho4 : (w3.drewN nq).ownsRow w.heap.size 25 6 (.slice ao l.length cap) l.length (evCells l) := ho3
              generalize w3.drewN nq = w4 at st4 hG4 ho4 ⊢
              clear st3 hG3 ho3 g0 g1 y0 y1 y2 y3 y4 y5
              obtain ⟨y0, y1, y2, y3, y4, y5⟩ := st4.hu.cells
              have g0 := cell_blk hG4 0
              have g1 := cell_blk hG4 1
              simp only [List.getElem?_toArray, List.getElem?_cons_zero, List.getElem?_cons_succ] at g0 g1
              obtain ⟨ao0, cap0, rfl⟩ := owns_form st4.it.own
              by_cases hg : S.nx < sq
              · have hdp : (0 : Int) < (d : Int) := by have := HD.out; omega
                have HT := Lib.hid (show tellL S.nx sq (.slice ao l.length cap) l = [⟨2, S.nx, d, .slice none 0 0, []⟩] ++ [⟨1, sq, 0, (.slice ao l.length cap), l⟩] by unfold tellL; rw [if_pos hg, ← HD.out])
                have HD2 := Lib.hid (show S.lo + (sq - S.nx) = S.lo + d by rw [← HD.out])
                clear hg
                have hal := (Below.refl w4.heap.size w4).alloc (Nat.le_refl _) (.cells #[.int .i64 2, .int .u32 S.nx, .int .u32 d, .slice none 0 0] 49)
                have hL := st4.below hal
                have hGL := (hal.block _ (blk_lt hG4)).trans hG4
                have hoL := own_below ho4 hal
                have hsr := src_it w4 ⟨2, S.nx, d, .slice none 0 0, []⟩
                have ho := hL.it.own
                have hb1 : w.heap.size ≤ (w4.alloc (.cells #[.int .i64 2, .int .u32 S.nx, .int .u32 d, .slice none 0 0] 49)).heap.size := hL.only.size
                have hem : ∀ x ∈ ([⟨2, S.nx, d, .slice none 0 0, []⟩] : List Itm), EvIn (w4.alloc (.cells #[.int .i64 2, .int .u32 S.nx, .int .u32 d, .slice none 0 0] 49)) w.heap.size x := by simp; exact EvIn.nil _ _ _ _ _
                have hone := itCells_one (w := w4) (lo := 0) (l := [⟨2, S.nx, d, .slice none 0 0, []⟩]) (by simp; exact EvIn.nil _ _ _ _ _)
                go_upto_region 12 with (at_builtin; (refine list_append rfl (.tmp 78) (.tmp 87) 45 rfl w.heap.size hb1 49 i0 _ 4 40 ul_items hi hz0 hz1 hz2 rfl (by decide) (.slice ao0 its.length cap0) its.length (itCells its) rfl ho _ 1 (itCells [⟨2, S.nx, d, .slice none 0 0, []⟩]) rfl rfl hsr hone (by unfold maxLen; omega) (by omega) ?_); intro ao2 cap2 w5 hown' hg2 hat; have st5 := hL.grow hem hg2 hown'; have hG5 := own_keepH ho hGL (by decide) hg2; have ho5 := own_grow hoL ho (by decide) hg2; clear hat hg2 hown')
                clear st4 hG4 ho4 hL hGL hoL hsr ho hb1 hem hone hal y0 y1 y2 y3 y4 y5 g0 g1
                obtain ⟨y0, y1, y2, y3, y4, y5⟩ := st5.hu.cells
                have z4 := st5.hu.frozen 4
                go_upto_region 13 with fail
                have st6 := st5.set 4 _ (st5.hu.set4 (S.lo + d))
                have hG6 := blk_setCell_other (p := ⟨m, 4, none⟩) hG5 (show G ≠ m by have := st5.lo; omega) (.int .u64 ((S.lo + d : Nat) : Int))
                have ho6 := own_set ho5 ⟨m, 4, none⟩ (.int .u64 ((S.lo + d : Nat) : Int)) st5.lo
                rw [show ((S.lo : Int) + d) = ((S.lo + d : Nat) : Int) by omega]
                generalize w5.setCell ⟨m, 4, none⟩ (.int .u64 ((S.lo + d : Nat) : Int)) = w6 at st6 hG6 ho6 ⊢
                clear st5 hG5 ho5 y0 y1 y2 y3 y4 y5 z4
                have hl1 : (its ++ [(⟨2, S.nx, d, .slice none 0 0, []⟩ : Itm)]).length = its.length + 1 := by simp
                generalize hI1 : its ++ [(⟨2, S.nx, d, .slice none 0 0, []⟩ : Itm)] = I1 at st6 hl1
                have HI := Lib.hid hI1
                clear hI1
                have g0 := cell_blk hG6 0
                have g1 := cell_blk hG6 1
                simp only [List.getElem?_toArray, List.getElem?_cons_zero, List.getElem?_cons_succ] at g0 g1
                have hal := (Below.refl w6.heap.size w6).alloc (Nat.le_refl _) (.cells #[.int .i64 1, .int .u32 sq, .int .u32 0, .slice ao l.length cap] 49)
                have hL := st6.below hal
                have hGL := (hal.block _ (blk_lt hG6)).trans hG6
                have hoL := own_below ho6 hal
                have hsr := src_it w6 ⟨1, sq, 0, .slice ao l.length cap, l⟩
                have ho := hL.it.own
                rw [hl1] at ho
                have hb1 : w.heap.size ≤ (w6.alloc (.cells #[.int .i64 1, .int .u32 sq, .int .u32 0, .slice ao l.length cap] 49)).heap.size := hL.only.size
                have hem : ∀ x ∈ ([⟨1, sq, 0, .slice ao l.length cap, l⟩] : List Itm), EvIn (w6.alloc (.cells #[.int .i64 1, .int .u32 sq, .int .u32 0, .slice ao l.length cap] 49)) w.heap.size x := by simp; exact ⟨⟨ao, cap, rfl⟩, hoL⟩
                have hone : ∀ u ∈ itCells [⟨1, sq, 0, .slice ao l.length cap, l⟩], u.oneCell' = true := itCells_one1 rfl
                go_upto_region 14 with (at_builtin; (refine list_append rfl (.tmp 97) (.tmp 103) 45 rfl w.heap.size hb1 49 i0 _ 4 40 ul_items hi hz0 hz1 hz2 rfl (by decide) (.slice ao2 (its.length + 1) cap2) (its.length + 1) (itCells I1) rfl ho _ 1 (itCells [⟨1, sq, 0, .slice ao l.length cap, l⟩]) rfl rfl hsr hone (by unfold maxLen; omega) (by omega) ?_); intro ao7 cap7 w7 hown' hg7 hat; have st7 := hL.grow hem hg7 (by rw [hl1]; exact hown'); have hG7 := own_keepH ho hGL (by decide) hg7; clear hat hg7 hown')
                clear st6 hG6 ho6 hL hGL hoL hsr ho hb1 hem hone hal g0 g1
                obtain ⟨y0, y1, y2, y3, y4, y5⟩ := st7.hu.cells
                have g0 := cell_blk hG7 0
                simp only [List.getElem?_toArray, List.getElem?_cons_zero, List.getElem?_cons_succ] at g0
                have z1 := st7.hu.frozen 1
                have z2 := st7.hu.frozen 2
                have st8 := (st7.set 2 _ (st7.hu.set2 (sq + 1))).set 1 _ ((st7.hu.set2 (sq + 1)).set1 nx2)
                rw [show ((sq + 1 : Nat) : Int) = (sq : Int) + 1 by omega] at st8
                go_wp2_with fail
                obtain ⟨g, rfl⟩ : ∃ g, gk = g + 1 := ⟨gk - 1, by have := HG.out; omega⟩
                go_roundg g
                case measure => omega
                case rel =>
                  have hok := HF.out.2.1.next hp
                  rw [HSK.out] at hok
                  have hll := tellL_len S.nx sq (.slice ao l.length cap) l
                  have hmm := tellL_map S.nx sq (.slice ao l.length cap) l
                  have e9 : I1 ++ [(⟨1, sq, 0, .slice ao l.length cap, l⟩ : Itm)] = its ++ tellL S.nx sq (.slice ao l.length cap) l := by rw [HT.out, ← HI.out, List.append_assoc]
                  rw [e9] at st8
                  refine ⟨⟨S.its ++ told S.nx sq l, nx2, sq + 1, S.sk, S.lo + (sq - S.nx)⟩, its ++ tellL S.nx sq (.slice ao l.length cap) l, ?_, by rw [List.map_append, HF.out.2.2, hmm], by rw [← HSK.out, ← HN.out]; exact HF.out.1, hok, by simp only; omega, by have := HG.out; simp only; omega, by rw [List.length_append]; simp only; omega⟩
                  simp only
                  rw [HD2.out]
                  exact st8
              · have hdp : ¬ (0 : Int) < (d : Int) := by have := HD.out; omega
                have HT := Lib.hid (show tellL S.nx sq (.slice ao l.length cap) l = [] ++ [⟨1, sq, 0, (.slice ao l.length cap), l⟩] by unfold tellL; rw [if_neg hg])
                have HD2 := Lib.hid (show S.lo + (sq - S.nx) = S.lo by omega)
                clear hg
                have st6 := st4
                have hG6 := hG4
                have ho6 := ho4
                clear st4 hG4 ho4 y0 y1 y2 y3 y4 y5 g0 g1
                go_upto_region 13 with fail
                have g0 := cell_blk hG6 0
                have g1 := cell_blk hG6 1
                simp only [List.getElem?_toArray, List.getElem?_cons_zero, List.getElem?_cons_succ] at g0 g1
                have hal := (Below.refl w4.heap.size w4).alloc (Nat.le_refl _) (.cells #[.int .i64 1, .int .u32 sq, .int .u32 0, .slice ao l.length cap] 49)
                have hL := st6.below hal
                have hGL := (hal.block _ (blk_lt hG6)).trans hG6
                have hoL := own_below ho6 hal
                have hsr := src_it w4 ⟨1, sq, 0, .slice ao l.length cap, l⟩
                have ho := hL.it.own
                have hb1 : w.heap.size ≤ (w4.alloc (.cells #[.int .i64 1, .int .u32 sq, .int .u32 0, .slice ao l.length cap] 49)).heap.size := hL.only.size
                have hem : ∀ x ∈ ([⟨1, sq, 0, .slice ao l.length cap, l⟩] : List Itm), EvIn (w4.alloc (.cells #[.int .i64 1, .int .u32 sq, .int .u32 0, .slice ao l.length cap] 49)) w.heap.size x := by simp; exact ⟨⟨ao, cap, rfl⟩, hoL⟩
                have hone : ∀ u ∈ itCells [⟨1, sq, 0, .slice ao l.length cap, l⟩], u.oneCell' = true := itCells_one1 rfl
                go_upto_region 14 with (at_builtin; (refine list_append rfl (.tmp 97) (.tmp 103) 45 rfl w.heap.size hb1 49 i0 _ 4 40 ul_items hi hz0 hz1 hz2 rfl (by decide) (.slice ao0 (its.length) cap0) (its.length) (itCells its) rfl ho _ 1 (itCells [⟨1, sq, 0, .slice ao l.length cap, l⟩]) rfl rfl hsr hone (by unfold maxLen; omega) (by omega) ?_); intro ao7 cap7 w7 hown' hg7 hat; have st7 := hL.grow hem hg7 (hown'); have hG7 := own_keepH ho hGL (by decide) hg7; clear hat hg7 hown')
                clear st6 hG6 ho6 hL hGL hoL hsr ho hb1 hem hone hal g0 g1
                obtain ⟨y0, y1, y2, y3, y4, y5⟩ := st7.hu.cells
                have g0 := cell_blk hG7 0
                simp only [List.getElem?_toArray, List.getElem?_cons_zero, List.getElem?_cons_succ] at g0
                have z1 := st7.hu.frozen 1
                have z2 := st7.hu.frozen 2
                have st8 := (st7.set 2 _ (st7.hu.set2 (sq + 1))).set 1 _ ((st7.hu.set2 (sq + 1)).set1 nx2)
                rw [show ((sq + 1 : Nat) : Int) = (sq : Int) + 1 by omega] at st8
                go_wp2_with fail
                obtain ⟨g, rfl⟩ : ∃ g, gk = g + 1 := ⟨gk - 1, by have := HG.out; omega⟩
                go_roundg g
                case measure => omega
                case rel =>
                  have hok := HF.out.2.1.next hp
                  rw [HSK.out] at hok
                  have hll := tellL_len S.nx sq (.slice ao l.length cap) l
                  have hmm := tellL_map S.nx sq (.slice ao l.length cap) l
                  have e9 : its ++ [(⟨1, sq, 0, .slice ao l.length cap, l⟩ : Itm)] = its ++ tellL S.nx sq (.slice ao l.length cap) l := by rw [HT.out, List.nil_append]
                  rw [e9] at st8
                  refine ⟨⟨S.its ++ told S.nx sq l, nx2, sq + 1, S.sk, S.lo + (sq - S.nx)⟩, its ++ tellL S.nx sq (.slice ao l.length cap) l, ?_, by rw [List.map_append, HF.out.2.2, hmm], by rw [← HSK.out, ← HN.out]; exact HF.out.1, hok, by simp only; omega, by have := HG.out; simp only; omega, by rw [List.length_append]; simp only; omega⟩
                  simp only
                  rw [HD2.out]
                  exact st8
          · have hk2 : (k == 2) = false := by simp [k2]
            have hk0 : (k != 0) = true := by simp [k0]
            have hnst : hstop T cl S = false := by unfold hstop; rw [← HRR.out]; simp; omega
            have hskip_ : hskip T S = true := by unfold hskip; rw [← HRR.out]; simp; omega
            have HN := Lib.hid (hfin_next hnst)
            clear hnst
            have HN2 : hnext T S = { S with p := S.p + 1, sk := S.sk + 1 } := by unfold hnext; rw [if_pos hskip_]
            have HSK := Lib.hid HN2
            clear hskip_ HN2
            have z1 := st2.hu.frozen 1
            have z3 := st2.hu.frozen 3
            have hskw : IntKind.u64.wrap ((S.sk : Int) + 1) = (S.sk : Int) + 1 := by have := HSZ.out; rw [IntKind.wrap_u64]; omega
            have hpb : S.p ≤ 1000000000 := by have := HSZ.out; omega
            go_upto_region 6 with fail
            go_quiet (fail)
            have st3 := st2.below (kept_drewN wc nq)
            generalize wc.drewN nq = w3 at st3 ⊢
            clear st2 y0 y1 y2 y3 y4 y5 z1 z3
            obtain ⟨y0, y1, y2, y3, y4, y5⟩ := st3.hu.cells
            have z1 := st3.hu.frozen 1
            have z3 := st3.hu.frozen 3
            have st4 := (st3.set 1 _ (st3.hu.set1 (S.p + 1))).set 3 _ ((st3.hu.set1 (S.p + 1)).set3 (S.sk + 1))
            rw [show ((S.sk + 1 : Nat) : Int) = (S.sk : Int) + 1 by omega, show ((S.p + 1 : Nat) : Int) = (S.p : Int) + 1 by omega] at st4
            go_wp2_with fail
            obtain ⟨g, rfl⟩ : ∃ g, gk = g + 1 := ⟨gk - 1, by have := HG.out; omega⟩
            go_roundg g
            case measure => omega
            case rel =>
              have hok := HF.out.2.1.next hp
              rw [HSK.out] at hok
              exact ⟨{ S with p := S.p + 1, sk := S.sk + 1 }, its, st4, HF.out.2.2, by rw [← HSK.out, ← HN.out]; exact HF.out.1, hok, by simp only; omega, by have := HG.out; simp only; omega, by simp only; omega⟩
    · have hp' : ¬ (S.p : Int) < T.size := by omega
      have HST := Lib.hid (show hstop T cl S = true by unfold hstop; simp; omega)
      go_upto_region 2 with fail
      go_quiet (fail)
      have st2 := st.below (kept_drewN wr nq)
      generalize wr.drewN nq = wz at st2 ⊢
      clear st y0 y1 y2 y3 y4 y5
      obtain ⟨ao9, cap9, rfl⟩ := owns_form st2.it.own
      have hR9 := HF.out.1
      rw [hfin_stop HST.out] at hR9
      have HR9 := Lib.hid hR9
      clear hR9
      go_wp2_with fail
      go_ret
      refine ⟨ao9, cap9, its, rfl, ?_, ?_, ?_, ?_⟩
      · rw [← HR9.out]; exact HF.out.2.2
      · exact st2.it
      · rw [← HR9.out]; exact st2.hu
      · exact st2.only
end Go.Proofs.Ytbfipgeoecbpaaa
