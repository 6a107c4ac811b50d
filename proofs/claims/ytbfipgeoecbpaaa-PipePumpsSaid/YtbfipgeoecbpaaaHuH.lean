/- Contract of hunt.hunt. No condition but those that it names. -/
import Derived.Test.YtbfipgeoecbpaaaHuT
import Derived.Deep.LoopGhost
import Derived.Deep.RegionHeld3
import Derived.WalkMore
namespace Go.Proofs.Ytbfipgeoecbpaaa
open Go.RowKit
set_option linter.unusedVariables false
set_option linter.unusedSimpArgs false
set_option maxRecDepth 20000
/-- Where hunt stands. -/
structure HuSt (w : World) (b tb : Nat) (Y : ByteArray) (cl : Bool) (S : HS) (out : Value) (its : List Itm) (wr : World) : Prop where
  hu : IsHu wr b tb Y S.nx S.sk S.lo cl
  only : Only (fun k => k = b) w wr
  it : ItIn wr w.heap.size out its
  map : its.map Itm.p = S.its
  tab : IsTab wr tb
  lo : b < w.heap.size
  ne : tb ≠ b
theorem HuSt.below {w : World} {b tb : Nat} {Y : ByteArray} {cl : Bool} {S : HS} {out : Value} {its : List Itm} {wr w2 : World} (h : HuSt w b tb Y cl S out its wr) (k : Below wr.heap.size wr w2) : HuSt w b tb Y cl S out its w2 :=
  { h with hu := h.hu.below k, only := h.only.trans (Only.of_below k (fun _ => False)) fun _ _ x => x.elim, it := h.it.below k, tab := h.tab.kept k }
theorem HuSt.skip {w : World} {b tb : Nat} {Y : ByteArray} {cl : Bool} {S : HS} {out : Value} {its : List Itm} {wr : World} (h : HuSt w b tb Y cl S out its wr) : HuSt w b tb Y cl { S with p := S.p + 1, sk := S.sk + 1 } out its (wr.setCell ⟨b, 3, none⟩ (.int .u64 ((S.sk + 1 : Nat) : Int))) :=
  have hl := h.lo
  { hu := h.hu.set3 (S.sk + 1)
    only := h.only.setCell _ _ fun _ => rfl
    it := h.it.only ((Only.refl (fun k => k = b) wr).setCell _ _ fun _ => rfl) fun k hk => by rw [hk]; exact hl
    map := h.map
    tab := h.tab.only ((Only.refl (fun k => k = b) wr).setCell _ _ fun _ => rfl) h.ne
    lo := hl
    ne := h.ne }
theorem tellL_map (nx seq : Nat) (sv : Value) (evs : List Ev) : (tellL nx seq sv evs).map Itm.p = told nx seq evs := by
  unfold tellL told gapI
  split <;> rfl
theorem tellL_len (nx seq : Nat) (sv : Value) (evs : List Ev) : (tellL nx seq sv evs).length ≤ 2 := by
  unfold tellL
  split <;> simp
theorem tellL_in {w : World} {lo nx seq cap : Nat} {ao : Option Addr} {evs : List Ev} (h : w.ownsRow lo 25 6 (.slice ao evs.length cap) evs.length (evCells evs)) : ∀ x ∈ tellL nx seq (.slice ao evs.length cap) evs, EvIn w lo x := by
  intro x hx
  unfold tellL at hx
  rcases List.mem_append.1 hx with hx | hx
  · split at hx
    · obtain rfl : x = _ := by simpa using hx
      exact EvIn.nil _ _ _ _ _
    · cases hx
  · obtain rfl : x = _ := by simpa using hx
    exact ⟨⟨ao, cap, rfl⟩, h⟩
/-- What is told is put behind. -/
theorem HuSt.tell {w : World} {b tb : Nat} {Y : ByteArray} {cl : Bool} {S : HS} {out out' : Value} {its : List Itm} {wr w3 w4 : World} {sq q cap : Nat} {ao : Option Addr} {l : List Ev} (h : HuSt w b tb Y cl S out its wr)
    (hown : wr.ownsRow w.heap.size 25 6 (.slice ao l.length cap) l.length (evCells l)) (ho : Only (fun k => k = b) wr w3) (hu : IsHu w3 b tb Y (sq + 1) S.sk (S.lo + (sq - S.nx)) cl)
    (hg : w3.grownBy w4 out.ownBlock) (hr : w4.ownsRow w.heap.size 49 4 out' (its.length + (tellL S.nx sq (.slice ao l.length cap) l).length) (itCells its ++ itCells (tellL S.nx sq (.slice ao l.length cap) l))) :
    HuSt w b tb Y cl ⟨S.its ++ told S.nx sq l, q, sq + 1, S.sk, S.lo + (sq - S.nx)⟩ out' (its ++ tellL S.nx sq (.slice ao l.length cap) l) w4 :=
  have hl := h.lo
  have hs : ∀ k, k = b → k < w.heap.size := fun k hk => by rw [hk]; exact hl
  have hi := h.it.only ho hs
  have ht := h.tab.only ho h.ne
  { hu := hu.grow hi.own hl hg
    only := (h.only.trans ho fun _ _ x => x).grown hg fun k hk hlt => by have := (hi.own.lt k hk).1; omega
    it := hi.grow (tellL_in (own_only hown ho hs)) hg hr
    map := by rw [List.map_append, h.map, tellL_map]
    tab := by
      obtain ⟨C, h1, h2⟩ := ht
      refine ⟨C, (hg.block tb (blk_lt h1) fun x => ?_).trans h1, h2⟩
      rcases hi.own.2 with ⟨h3, _⟩ | ⟨g, cp, cur, h3, _, hb, _⟩
      · rw [h3] at x; cases x
      · rw [h3] at x
        obtain rfl : tb = g := by simpa [Value.ownBlock] using x
        rw [h1] at hb
        simp only [Option.some.injEq, Obj.cells.injEq] at hb
        exact absurd hb.2.1 (by decide)
    lo := hl
    ne := h.ne }
/-- What hunt answers. -/
def HuPost (w : World) (b tb : Nat) (Y : ByteArray) (cl : Bool) (R : HS) (x : Ending) (w' : World) : Prop :=
  ∃ ao cap its, x = .returned (.slice ao its.length cap) ∧ its.map Itm.p = R.its ∧ ItIn w' w.heap.size (.slice ao its.length cap) its ∧ IsHu w' b tb (Y.extract R.p Y.size) R.nx R.sk R.lo cl ∧ Only (fun k => k = b) w w'
/-- The loop's relation. -/
def HL (w : World) (b tb : Nat) (Y : ByteArray) (cl : Bool) (sk0 : Nat) (R : HS) (g : Nat) (out at_ : Value) (wr : World) : Prop :=
  ∃ S its, at_ = .int .i64 (S.p : Int) ∧ HuSt w b tb Y cl S out its wr ∧ hfin Y cl S = R ∧ S.Ok Y ∧ S.sk ≤ sk0 + S.p ∧ Y.size - S.p ≤ g ∧ its.length ≤ 2 * S.p
set_option maxHeartbeats 4000000 in
theorem hhunt_any (w : World) (b tb : Nat) (Y : ByteArray) (nx sk lo : Nat) (cl : Bool) (hH : IsHu w b tb Y nx sk lo cl) (hT : IsTab w tb) (hne : tb ≠ b) (hs : Y.size ≤ 1000000000) (hsk : sk ≤ 1000000000000000) (hnx : nx ≤ 4294967296) (hlo : lo ≤ nx) :
    Calls Try.prog 64 #[.pointer (some ⟨b, 0, none⟩)] w (HuPost w b tb Y cl (hfin Y cl ⟨[], 0, nx, sk, lo⟩)) := by
  obtain ⟨i0, hi, hz0, hz1, hz2⟩ := itm_info
  have st0 : HuSt w b tb Y cl ⟨[], 0, nx, sk, lo⟩ (.slice none 0 0) [] w :=
    { hu := hH, only := Only.refl _ w, it := ItIn.nil _ _, map := rfl, tab := hT, lo := blk_lt hH, ne := hne }
  have ok0 : HS.Ok Y ⟨[], 0, nx, sk, lo⟩ := ⟨Nat.zero_le _, hnx, hlo⟩
  obtain ⟨R, hR⟩ : ∃ R, R = hfin Y cl ⟨[], 0, nx, sk, lo⟩ := ⟨_, rfl⟩
  rw [← hR]
  have HR := Lib.hid hR
  have HSZ := Lib.hid hs
  clear hR hs hH hT hne hnx hlo
  go_enter Try.func64, Try.ntmps64
  go_wp2_with fail
  go_step3
  go_wp2_with fail
  go_step3
  go_wp2_with fail
  go_loopg [3, 4] (Y.size) (fun g out at_ wr => HL w b tb Y cl sk R g out at_ wr)
  case atStart => exact ⟨_, [], rfl, st0, HR.out.symm, ok0, Nat.le_refl _, by simp, by simp⟩
  case round =>
    clear st0 ok0 HR
    obtain ⟨S, its, rfl, st, hfin_, hok, hskp, hg, hil⟩ := hrel
    have HF := Lib.hid (And.intro hfin_ hok)
    have HG := Lib.hid hg
    have hpl := hok.p
    clear hfin_ hok hg
    obtain ⟨y0, y1, y2, y3, y4, y5⟩ := st.hu.cells
    by_cases hp : S.p < Y.size
    · have hp' : (S.p : Int) < Y.size := by omega
      obtain ⟨⟨k, sq, l, nx2⟩, hr⟩ : ∃ r, r = frR Y S.p := ⟨_, rfl⟩
      have hrd := fun W hT => fread_any W tb hT Y HSZ.out (S.p : Int)
      rw [← hr] at hrd
      unfold FrPost at hrd
      simp only at hrd
      have HRR := Lib.hid hr
      clear hr
      have hc : wr.cell? ⟨b, 0, none⟩ = some (.pointer (some ⟨tb, 0, none⟩)) ∧ wr.cell? ⟨b, 1, none⟩ = some (.string Y) := ⟨y0, y1⟩
      go_upto_region 4 with fail
      have stD := st.below ((Below.refl wr.heap.size wr).drew)
      have stA := st.below (((Below.refl wr.heap.size wr).alloc (Nat.le_refl _) (.cells #[.int .u32 0, .slice none 0 0] 110)).drew)
      have hcX : ∀ {W : World}, Below wr.heap.size wr W → W.cell? ⟨b, 0, none⟩ = some (.pointer (some ⟨tb, 0, none⟩)) ∧ W.cell? ⟨b, 1, none⟩ = some (.string Y) := fun k => ⟨(st.below k).hu.cells.1, (st.below k).hu.cells.2.1⟩
      go_cut [5, 6, 7] (fun f bh e wx => ∃ G ao cap, f = .pointer (some ⟨G, 0, none⟩) ∧ bh = .int .i64 nx2 ∧ e = .int .i64 k ∧ HuSt w b tb Y cl S u3 its wx ∧ wx.heap[G]? = some (.cells #[.int .u32 sq, .slice ao l.length cap] 110 (0, 0)) ∧ wx.ownsRow w.heap.size 25 6 (.slice ao l.length cap) l.length (evCells l) ∧ w.heap.size ≤ G)
      case first =>
        go_region_held (fun w' => w'.cell? ⟨b, 0, none⟩ = some (.pointer (some ⟨tb, 0, none⟩)) ∧ w'.cell? ⟨b, 1, none⟩ = some (.string Y)) (first | exact hc | (refine hcX ?_; ((repeat (first | exact Below.refl _ _ | assumption | refine Below.drew ?_ | refine bel_set2 ?_ _ _ ?_ | refine Below.alloc ?_ ?_ _)); all_goals (first | exact Nat.le_refl _ | assumption | omega | (simp at *; omega))))) (first | (go_at_call 92; (refine (hrd _ stD.tab).mono ?_); rintro x w2 ⟨ao, cap, rfl, hown, hk⟩; have hkW : Below wr.heap.size wr w2 := ((Below.refl wr.heap.size wr).drew).trans (hk.mono (Nat.le_refl _)); have hk1 := hk.size) | (go_at_call 92; (refine (hrd _ stA.tab).mono ?_); rintro x w2 ⟨ao, cap, rfl, hown, hk⟩; have hkW : Below wr.heap.size wr w2 := (((Below.refl wr.heap.size wr).alloc (Nat.le_refl _) (.cells #[.int .u32 0, .slice none 0 0] 110)).drew).trans (hk.mono (by simp)); have hk1 := hk.size; have hGb : w2.heap[wr.heap.size]? = some (.cells #[.int .u32 0, .slice none 0 0] 110 (0, 0)) := (hk.block wr.heap.size (by simp)).trans (heap_alloc_new wr _); have g0 := cell_blk hGb 0; have g1 := cell_blk hGb 1; have gf0 := frozen_blk hGb 0; have gf1 := frozen_blk hGb 1))
        all_goals (go_wp2_with fail; go_meet)
        · exact ⟨w2.heap.size, ao, cap, rfl, rfl, rfl, st.below (by ((repeat (first | exact Below.refl _ _ | assumption | refine Below.drew ?_ | refine bel_set2 ?_ _ _ ?_ | refine Below.alloc ?_ ?_ _)); all_goals (first | exact Nat.le_refl _ | assumption | omega | (simp at *; omega)))), heap_alloc_new w2 _, World.ownsRow.mono (own_below hown ((Below.refl w2.heap.size w2).alloc (Nat.le_refl _) _)) st.only.size, Nat.le_trans st.only.size hkW.size⟩
        · exact ⟨wr.heap.size, ao, cap, rfl, rfl, rfl, st.below (by ((repeat (first | exact Below.refl _ _ | assumption | refine Below.drew ?_ | refine bel_set2 ?_ _ _ ?_ | refine Below.alloc ?_ ?_ _)); all_goals (first | exact Nat.le_refl _ | assumption | omega | (simp at *; omega)))), blk_setCell (blk_setCell hGb (i := 0) (.int .u32 sq)) (i := 1) (.slice ao l.length cap), World.ownsRow.mono (own_set (own_set hown _ _ (by simp)) _ _ (by simp)) (Nat.le_trans st.only.size (by simp)), st.only.size⟩
      case rest =>
        obtain ⟨G, ao, cap, rfl, rfl, rfl, st2, hG, hown, hGl⟩ := hcut
        clear st stD stA hcX hc y0 y1 y2 y3 y4 y5 hrd
        obtain ⟨y0, y1, y2, y3, y4, y5⟩ := st2.hu.cells
        have g0 := cell_blk hG 0
        have g1 := cell_blk hG 1
        simp only [List.getElem?_toArray, List.getElem?_cons_zero, List.getElem?_cons_succ] at g0 g1
        by_cases k2 : k = 2
        · subst k2
          cases cl with
          | false =>
            have hstop_ : hstop Y false S = true := by unfold hstop; rw [← HRR.out]; simp
            have HST := Lib.hid hstop_
            clear hstop_
            have hu11 := st2.hu
            obtain ⟨ao9, cap9, rfl⟩ := owns_form st2.it.own
            have z1 := st2.hu.frozen 1
            have hR9 := HF.out.1
            rw [hfin_stop HST.out] at hR9
            have HR9 := Lib.hid hR9
            clear hR9
            go_wp2_with fail
            rw [Exit.noGoto_ret]
            go_ret
            have hl9 := st2.lo
            refine ⟨ao9, cap9, its, rfl, ?_, ?_, ?_, ?_⟩
            · rw [← HR9.out]; exact st2.map
            · exact st2.it.only ((Only.refl (fun k => k = b) _).setCell _ _ fun _ => rfl) fun k hk => by rw [hk]; exact hl9
            · rw [← HR9.out]; exact hu11.set1 _
            · exact st2.only.setCell _ _ fun _ => rfl
          | true =>
            have hnst : hstop Y true S = false := by unfold hstop; rw [← HRR.out]; simp; omega
            have HN := Lib.hid (hfin_next hnst)
            clear hnst
            have hskip_ : hskip Y S = true := by unfold hskip; rw [← HRR.out]; simp
            have HN2 : hnext Y S = { S with p := S.p + 1, sk := S.sk + 1 } := by unfold hnext; rw [if_pos hskip_]
            have HSK := Lib.hid HN2
            clear hskip_ HN2
            have z3 := st2.hu.frozen 3
            have hskw : IntKind.u64.wrap ((S.sk : Int) + 1) = (S.sk : Int) + 1 := by have := HSZ.out; rw [IntKind.wrap_u64]; omega
            have hpb : S.p ≤ 1000000000 := by have := HSZ.out; omega
            go_upto_region 6 with fail
            go_quiet (fail)
            have st3 := (st2.below (kept_drewN wc nq)).skip
            rw [show ((S.sk + 1 : Nat) : Int) = (S.sk : Int) + 1 by omega] at st3
            go_wp2_with fail
            obtain ⟨g, rfl⟩ : ∃ g, gk = g + 1 := ⟨gk - 1, by have := HG.out; omega⟩
            go_roundg g
            case measure => omega
            case rel =>
              have hok := HF.out.2.next hp
              rw [HSK.out] at hok
              exact ⟨{ S with p := S.p + 1, sk := S.sk + 1 }, its, by go_num, st3, by rw [← HSK.out, ← HN.out]; exact HF.out.1, hok, by simp only; omega, by have := HG.out; simp only; omega, by simp only; omega⟩
        · by_cases k0 : k = 0
          · subst k0
            have hsq : sq < 4294967296 := (frR_ok (Nat.le_of_lt hp) HRR.out.symm).2.2.1
            have hsw : IntKind.u64.wrap (sq : Int) = sq := by rw [IntKind.wrap_u64]; omega
            by_cases hlt : sq < S.nx
            · have hlt' : decide ((sq : Int) < (S.nx : Int)) = true := by simp; omega
              have hnst : hstop Y cl S = false := by unfold hstop; rw [← HRR.out]; simp; omega
              have HN := Lib.hid (hfin_next hnst)
              clear hnst
              have hskip_ : hskip Y S = true := by unfold hskip; rw [← HRR.out]; simp; omega
              have HN2 : hnext Y S = { S with p := S.p + 1, sk := S.sk + 1 } := by unfold hnext; rw [if_pos hskip_]
              have HSK := Lib.hid HN2
              clear hskip_ HN2
              have z3 := st2.hu.frozen 3
              have hskw : IntKind.u64.wrap ((S.sk : Int) + 1) = (S.sk : Int) + 1 := by have := HSZ.out; rw [IntKind.wrap_u64]; omega
              have hpb : S.p ≤ 1000000000 := by have := HSZ.out; omega
              go_upto_region 6 with fail
              go_quiet (fail)
              have st3 := (st2.below (kept_drewN wc nq)).skip
              rw [show ((S.sk + 1 : Nat) : Int) = (S.sk : Int) + 1 by omega] at st3
              go_wp2_with fail
              obtain ⟨g, rfl⟩ : ∃ g, gk = g + 1 := ⟨gk - 1, by have := HG.out; omega⟩
              go_roundg g
              case measure => omega
              case rel =>
                have hok := HF.out.2.next hp
                rw [HSK.out] at hok
                exact ⟨{ S with p := S.p + 1, sk := S.sk + 1 }, its, by go_num, st3, by rw [← HSK.out, ← HN.out]; exact HF.out.1, hok, by simp only; omega, by have := HG.out; simp only; omega, by simp only; omega⟩
            · have hlt' : decide ((sq : Int) < (S.nx : Int)) = false := by simp; omega
              have hnst : hstop Y cl S = false := by unfold hstop; rw [← HRR.out]; simp; omega
              have HN := Lib.hid (hfin_next hnst)
              clear hnst
              have hskip_ : hskip Y S = false := by unfold hskip; rw [← HRR.out]; simp; omega
              have HN2 : hnext Y S = ⟨S.its ++ told S.nx sq l, nx2, sq + 1, S.sk, S.lo + (sq - S.nx)⟩ := by unfold hnext; rw [hskip_, ← HRR.out]; rfl
              have HSK := Lib.hid HN2
              clear hskip_ HN2
              have hnxl : S.nx ≤ sq := by omega
              have hlol : S.lo ≤ 4294967296 := by have h1 := HF.out.2.lo; have h2 := HF.out.2.nx; omega
              have hnx2 : S.p + 60 ≤ nx2 := (frR_ok (Nat.le_of_lt hp) HRR.out.symm).1
              have hpb : S.p ≤ 1000000000 := by have := HSZ.out; omega
              clear k2
              go_upto_region 6 with fail
              go_quiet (fail)
              have st3 := st2.below (kept_drewN wc nq)
              have hG3 := blk_drewN hG nq
              have ho3 : (wc.drewN nq).ownsRow w.heap.size 25 6 (.slice ao l.length cap) l.length (evCells l) := hown
              generalize wc.drewN nq = W3 at st3 hG3 ho3 ⊢
              clear st2 hG hown g0 g1 y0 y1 y2 y3 y4 y5
              have g0 := cell_blk hG3 0
              have g1 := cell_blk hG3 1
              simp only [List.getElem?_toArray, List.getElem?_cons_zero, List.getElem?_cons_succ] at g0 g1
              have htl := tell_any W3 b tb Y S.nx S.sk S.lo sq cl ao cap l st3.hu hsq hnxl hlol
              have hll := tellL_len S.nx sq (.slice ao l.length cap) l
              go_upto_region 9 with fail
              go_wp2_with (first | (go_at_call 93; (refine htl.mono ?_); rintro x w4 ⟨ao4, cap4, rfl, hrow, hhu, hon⟩; have hi4 := (st3.it.only hon fun k hk => by rw [hk]; exact st3.lo).own; have hsr := src_own hrow (itCells_length _); have hb4 : w.heap.size ≤ w4.heap.size := Nat.le_trans st3.only.size hon.size; have hone := itCells_one (w := W3) (lo := w.heap.size) (tellL_in (nx := S.nx) (seq := sq) ho3)) | (at_builtin; (refine list_append rfl (.tmp 61) (.tmp 64) 45 rfl w.heap.size hb4 49 i0 _ 4 40 ul_items hi hz0 hz1 hz2 rfl (by decide) u3 its.length (itCells its) rfl hi4 _ (tellL S.nx sq (.slice ao l.length cap) l).length (itCells (tellL S.nx sq (.slice ao l.length cap) l)) rfl (itCells_length _) hsr hone (by unfold maxLen; omega) (by omega) ?_); intro ao5 cap5 w5 hown' hg5 hat; have st5 := st3.tell (q := nx2) ho3 hon hhu hg5 hown'; clear hat))
              obtain ⟨g, rfl⟩ : ∃ g, gk = g + 1 := ⟨gk - 1, by have := HG.out; omega⟩
              go_roundg g
              case measure => omega
              case rel =>
                have hok := HF.out.2.next hp
                rw [HSK.out] at hok
                exact ⟨⟨S.its ++ told S.nx sq l, nx2, sq + 1, S.sk, S.lo + (sq - S.nx)⟩, its ++ tellL S.nx sq (.slice ao l.length cap) l, rfl, st5, by rw [← HSK.out, ← HN.out]; exact HF.out.1, hok, by simp only; omega, by have := HG.out; simp only; omega, by rw [List.length_append]; simp only; omega⟩
          · have hk2 : (k == 2) = false := by simp [k2]
            have hk0 : (k != 0) = true := by simp [k0]
            have hnst : hstop Y cl S = false := by unfold hstop; rw [← HRR.out]; simp; omega
            have HN := Lib.hid (hfin_next hnst)
            clear hnst
            have hskip_ : hskip Y S = true := by unfold hskip; rw [← HRR.out]; simp; omega
            have HN2 : hnext Y S = { S with p := S.p + 1, sk := S.sk + 1 } := by unfold hnext; rw [if_pos hskip_]
            have HSK := Lib.hid HN2
            clear hskip_ HN2
            have z3 := st2.hu.frozen 3
            have hskw : IntKind.u64.wrap ((S.sk : Int) + 1) = (S.sk : Int) + 1 := by have := HSZ.out; rw [IntKind.wrap_u64]; omega
            have hpb : S.p ≤ 1000000000 := by have := HSZ.out; omega
            go_upto_region 6 with fail
            go_quiet (fail)
            have st3 := (st2.below (kept_drewN wc nq)).skip
            rw [show ((S.sk + 1 : Nat) : Int) = (S.sk : Int) + 1 by omega] at st3
            go_wp2_with fail
            obtain ⟨g, rfl⟩ : ∃ g, gk = g + 1 := ⟨gk - 1, by have := HG.out; omega⟩
            go_roundg g
            case measure => omega
            case rel =>
              have hok := HF.out.2.next hp
              rw [HSK.out] at hok
              exact ⟨{ S with p := S.p + 1, sk := S.sk + 1 }, its, by go_num, st3, by rw [← HSK.out, ← HN.out]; exact HF.out.1, hok, by simp only; omega, by have := HG.out; simp only; omega, by simp only; omega⟩
    · have hp' : ¬ (S.p : Int) < Y.size := by omega
      have HST := Lib.hid (show hstop Y cl S = true by unfold hstop; simp; omega)
      have st2 := st
      have hu11 := st2.hu
      obtain ⟨ao9, cap9, rfl⟩ := owns_form st2.it.own
      have z1 := st2.hu.frozen 1
      have hR9 := HF.out.1
      rw [hfin_stop HST.out] at hR9
      have HR9 := Lib.hid hR9
      clear hR9
      go_wp2_with fail
      go_ret
      have hl9 := st2.lo
      refine ⟨ao9, cap9, its, rfl, ?_, ?_, ?_, ?_⟩
      · rw [← HR9.out]; exact st2.map
      · exact st2.it.only ((Only.refl (fun k => k = b) _).setCell _ _ fun _ => rfl) fun k hk => by rw [hk]; exact hl9
      · rw [← HR9.out]; exact hu11.set1 _
      · exact st2.only.setCell _ _ fun _ => rfl
end Go.Proofs.Ytbfipgeoecbpaaa
