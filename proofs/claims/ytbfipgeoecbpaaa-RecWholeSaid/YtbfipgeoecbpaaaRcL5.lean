/- The walk of the statement of layer 23: RecWhole. -/
import Derived.Test.YtbfipgeoecbpaaaRcW
import Derived.Deep.CutRange
namespace Go.Proofs.Ytbfipgeoecbpaaa
open Go.RowKit
set_option linter.unusedVariables false
set_option linter.unusedSimpArgs false
set_option maxRecDepth 20000
def WhL (w : World) (x rx room len : Nat) (z : Nat → Ev) (g : Nat) (i : Value) (wr : World) : Prop :=
  ∃ k : Nat, i = .int .i64 k ∧ k ≤ len ∧ GSt w wr x rx room (putsR room z k) ∧ len - k ≤ g
/-- The items that are told, in memory; how many frames there are. -/
structure WhE (w : World) (x : Nat) (fr : List (List Ev)) (B : Nat) (iv : Value) (its : List Itm) : Prop where
  it : ItIn w B iv its
  map : its.map Itm.p = frIts 0 fr
  fs : FrSt w x fr.length
theorem WhE.below {w w' : World} {x B : Nat} {fr : List (List Ev)} {iv : Value} {its : List Itm} (h : WhE w x fr B iv its) (k : Below w.heap.size w w') : WhE w' x fr B iv its :=
  ⟨h.it.below k, h.map, h.fs.only (Only.of_below k (fun _ => False)) fun q => q⟩
theorem WhE.at {w : World} {x B : Nat} {fr : List (List Ev)} {iv : Value} {its : List Itm} (h : WhE w x fr B iv its) {i : Nat} (hi : i < its.length) : (its.getD i default).k = 1 ∧ (its.getD i default).seq = i ∧ (its.getD i default).lost = 0 ∧ (its.getD i default).evs = fr.getD i [] := by
  have hl := congrArg List.length h.map
  rw [List.length_map, frIts_len] at hl
  have h1 : (its.map Itm.p)[i]? = some (its.getD i default).p := by
    rw [List.getElem?_map, List.getElem?_eq_getElem hi, List.getD_eq_getElem?_getD, List.getElem?_eq_getElem hi]; rfl
  rw [h.map, frIts_at fr 0 i (by omega), Nat.zero_add] at h1
  have := Option.some.inj h1
  exact ⟨(congrArg (fun p : PIt => p.1) this).symm, (congrArg (fun p : PIt => p.2.1) this).symm, (congrArg (fun p : PIt => p.2.2.1) this).symm, (congrArg (fun p : PIt => p.2.2.2) this).symm⟩
def BwR (w : World) (fr : List (List Ev)) (g : Nat) (i : Value) (wr : World) : Prop :=
  ∃ k : Nat, i = .int .i64 k ∧ k ≤ fr.length ∧ Below w.heap.size w wr ∧ fr.length - k ≤ g
theorem src_blk {w : World} {b : Nat} {e : Ev} {T : TypeId} (h : w.heap[b]? = some (.cells e.cells.toArray T (0, 0))) : Src w (.slice (some ⟨b, 0, none⟩) 1 1) 1 (evCells [e]) := by
  refine .inr ⟨_, 1, rfl, fun j u hj => ?_⟩
  rw [Go.WideShapes.add_plain, cell_blk h]
  have e1 : evCells [e] = e.cells := by simp [evCells]
  rw [e1] at hj
  rw [← hj, Nat.zero_add]
  simp
theorem mem_getD {fr : List (List Ev)} {i : Nat} (h : i < fr.length) : fr.getD i [] ∈ fr := by
  rw [List.getD_eq_getElem?_getD, List.getElem?_eq_getElem h]; exact List.getElem_mem h
set_option maxHeartbeats 8000000 in
theorem recWhole_law (room0 : Int) (oa : Option Addr) (len cap : Nat) (z : Nat → Ev) (w : World) (_hr0 : (Lit.int .i64 room0).wf = true) (hs : SlArgN w oa len cap 6 (fun i j => (z i).f j)) (hr : cap * 40 ≤ 140737488351232) (hx : (∀ i, i < len → (z i).Wf) ∧ (oa = none → cap = 0)) :
    Calls Try.prog 5 #[.int .i64 room0, .slice oa len cap] w fun e w' => e = .returned (.bool true) ∧ Below w.heap.size w w' := by
  by_cases hb : room0 < 20 ∨ 120 < room0
  · go_enter Try.func5, Try.ntmps5
    go_wp2_with fail
    refine (fresh_bad _ hb _).mono ?_
    rintro a w1 ⟨rb, rfl, hk1⟩
    go_wp2_with fail
    refine (awake23 _).mono ?_
    rintro a w3 ⟨rfl, hk3⟩
    go_wp2_with fail
    refine (awake23 _).mono ?_
    rintro a w4 ⟨rfl, hk4⟩
    go_wp2_with fail
    go_ret
    have b2 := hk1.trans (hk3.mono hk1.size)
    exact ⟨rfl, b2.trans (hk4.mono b2.size)⟩
  · obtain ⟨room, rfl⟩ : ∃ room : Nat, room0 = room := ⟨room0.toNat, by omega⟩
    have r1 : 20 ≤ room := by omega
    have r2 : room ≤ 120 := by omega
    clear hb
    go_enter Try.func5, Try.ntmps5
    go_wp2_with fail
    refine (fresh_st room r1 r2 _).mono ?_
    rintro a w1 ⟨x, rx, rfl, st⟩
    go_wp2_with fail
    refine (awake23 _).mono ?_
    rintro a w2 ⟨rfl, hk2⟩
    have st := st.below hk2
    clear hk2
    by_cases hl : len ≤ 300
    · have hd : decide ((300 : Int) < len) = false := by simp; omega
      go_wp2_with fail
      clear hd
      go_loopg [36] (len) (fun g i wr => WhL w x rx room len z g i wr)
      case atStart => exact ⟨0, rfl, Nat.zero_le _, st, by omega⟩
      case round =>
        clear st
        obtain ⟨k, rfl, hk, st, hg⟩ := hrel
        have hcn := puts_cnt room z k
        by_cases hlt : k < len
        · have hlt' : (k : Int) < len := by omega
          have hs1 := hs.kept st.bel
          obtain ⟨b, off, hoa, hbl, hc⟩ := hs1.2.2 k hlt
          obtain ⟨e, hee⟩ : ∃ e, e = z k := ⟨_, rfl⟩
          have c0 := hc 0 (by decide)
          have c1 := hc 1 (by decide)
          have c2 := hc 2 (by decide)
          have c3 := hc 3 (by decide)
          have c4 := hc 4 (by decide)
          have c5 := hc 5 (by decide)
          dsimp only [Ev.f, Nat.add_zero] at c0 c1 c2 c3 c4 c5
          rw [← hee] at c0 c1 c2 c3 c4 c5
          subst hoa
          have hw : e.Wf := by rw [hee]; exact hx.1 k hlt
          have hpn : putsR room z (k + 1) = (putsR room z k).put room e := by rw [hee]; rfl
          have HE := Lib.hid (And.intro hee hpn)
          have st1 := st.below ((Below.refl wr.heap.size wr).alloc (Nat.le_refl _) (.cells #[.int .i64 e.k, .int .u64 e.cy, .int .u64 e.ct, .int .u32 e.a, .int .u32 e.b, .int .u32 e.v] 25))
          have hput := zput_any st1 (by omega) e hw
          unfold Ev.val at hput
          clear hee hpn hc hs1 st
          go_wp2_with ((go_at_call 17; (with_reducible refine hput.mono ?_); rintro a w6 ⟨rfl, st6⟩))
          obtain ⟨gg, rfl⟩ : ∃ gg, gk = gg + 1 := ⟨gk - 1, by omega⟩
          go_roundg gg
          case measure => omega
          case rel => exact ⟨k + 1, by go_num, by omega, by rw [HE.out.2]; exact st6, by omega⟩
        · have hlt' : ¬ (k : Int) < len := by omega
          obtain rfl : k = len := by omega
          have hfl := zflush_any st (by omega)
          go_upto_region 10 with ((go_at_call 15; (with_reducible refine hfl.mono ?_); rintro a w6 ⟨rfl, st6⟩))
          obtain ⟨hinv, hlong⟩ := puts_long room r1 z k hx.1
          have hmx := hlong.flush
          have hinv := hinv.flush
          clear hfl st hs hx hg hlt hlt' hlong
          obtain ⟨R1, hR1⟩ : ∃ R1, R1 = (putsR room z k).flush := ⟨_, rfl⟩
          have hcn1 : R1.fr.length ≤ 300 := by have := cnt_le R1; rw [hR1, cnt_flush] at this; rw [hR1]; omega
          rw [← hR1] at st6 hmx hinv
          clear hR1 hcn
          have hB6 := st6.bel
          obtain ⟨O, g6, hO⟩ := st6.g
          obtain ⟨fr, hfr⟩ : ∃ fr, fr = R1.fr := ⟨_, rfl⟩
          have hO6 := g6.foot
          have hfri := hinv.fr
          have hall := rc_all hinv r2 (by omega) true
          have hxs := g6.all_le
          go_wp2_with fail
          refine (gused_any g6).mono ?_
          rintro a w9 ⟨rfl, rfl⟩
          go_wp2_with fail
          refine (gdrain2_any g6).mono ?_
          rintro a w9 ⟨rfl, fs9, on9, hOx⟩
          have hB9 := hB6.trans (on9.below hB6.size fun i hi q => by have := hO i q; omega)
          have hxl : x < w9.heap.size := fs9.lt
          have hrl := rall_any w9 ⟨R1.all.toArray⟩ (by show (List.toArray R1.all).size ≤ _; rw [List.size_toArray]; omega)
          have e0 : hfin ⟨R1.all.toArray⟩ true hs0 = _ := hall
          rw [e0] at hrl
          rw [← hfr] at hmx hfri fs9 hrl hcn1
          clear hall hinv g6 on9 hO6 hOx st6 e0 hO hxs hfr
          go_wp2_with fail
          refine hrl.mono ?_
          rintro a w12 ⟨ao3, cp3, its, rfl, hmap, hin, hk12⟩
          have hE12 : WhE w12 x fr w9.heap.size (.slice ao3 its.length cp3) its := ⟨hin, hmap, fs9.only (Only.of_below hk12 (fun _ => False)) fun q => q⟩
          have hB12 := hB9.trans (hk12.mono hB9.size)
          have hlen0 : its.length = fr.length := by have := congrArg List.length hmap; rwa [List.length_map, frIts_len] at this
          have hlen := Lib.hid (And.intro hlen0 (And.intro hfri hmx))
          clear hlen0 hfri hmx hmap hin hk12 fs9 hrl hB9 hB6
          go_wp2_with fail
          go_loopg [53] (fr.length) (fun g i wr => BwR w12 fr g i wr)
          case atStart => exact ⟨0, rfl, Nat.zero_le _, Below.refl _ _, by omega⟩
          case round =>
            obtain ⟨j, rfl, hj, hbel, hg⟩ := hrel
            have hE := hE12.below hbel
            by_cases hlt : j < fr.length
            · have hlt2 : j < its.length := by have := hlen.out.1; omega
              have hlt' : (j : Int) < its.length := by omega
              obtain ⟨b', off, hoa, hbl', hc⟩ := (slItm_own hE.it.own).2.2 j hlt2
              have hEv : EvIn wr w9.heap.size (its.getD j default) := hE.it.evs _ (by rw [List.getD_eq_getElem?_getD, List.getElem?_eq_getElem hlt2]; exact List.getElem_mem hlt2)
              obtain ⟨t1, t2, t3, t4⟩ := hE.at hlt2
              obtain ⟨⟨so, sc, hsv⟩, hevo⟩ := hEv
              have c0 := hc 0 (by decide)
              have c1 := hc 1 (by decide)
              have c2 := hc 2 (by decide)
              have c3 := hc 3 (by decide)
              dsimp only [Itm.f, Nat.add_zero] at c0 c1 c2 c3
              rw [t1] at c0
              rw [t2] at c1
              rw [t3] at c2
              rw [hsv] at c3 hevo
              rw [t4] at c3 hevo
              subst hoa
              obtain ⟨F, hF⟩ : ∃ F, F = fr.getD j [] := ⟨_, rfl⟩
              rw [← hF] at c3 hevo
              obtain ⟨f1, f2, f3⟩ := hlen.out.2.1 F (by rw [hF]; exact mem_getD hlt)
              have HF := Lib.hid hF
              clear hF t1 t2 t3 t4 hc hsv
              have hal := (Below.refl wr.heap.size wr).alloc (Nat.le_refl _) (.cells #[.int .i64 1, .int .u32 j, .int .u32 0, .slice so F.length sc] 49)
              have hob := heap_alloc_new wr (.cells #[.int .i64 1, .int .u32 j, .int .u32 0, .slice so F.length sc] 49)
              have hevo2 := own_below hevo hal
              have hFl : F.length ≤ 120 := by
                have h1 : F.length ≤ (lB F).length := by
                  have := op_le (room := room) (R := ⟨[], F, F.getLastD default, false⟩) ⟨fun _ => ⟨f1, rfl, f3⟩, (by
                    have := lOk_wf f1 (F.length - 1) (by have := List.length_pos_iff.2 f2; omega)
                    rw [List.getLastD_eq_getLast?, List.getLast?_eq_getElem?]
                    rw [List.getD_eq_getElem?_getD] at this
                    exact this), fun g hg => by cases hg⟩
                  exact this
                omega
              have hpr := rprn_any (wr.alloc (.cells #[.int .i64 1, .int .u32 j, .int .u32 0, .slice so F.length sc] 49)) so F.length sc (fun i => F.getD i default) (slArgN_own hevo2) (lOk_wf f1) (by omega)
              have hS : prnS (fun i => F.getD i default) F.length = lB F := by unfold prnS; rw [if_pos (lOk_prn f1), lB_prn]
              rw [hS, lOk_prn f1] at hpr
              have h3B : 3 ≤ (lB F).length := by
                have hh := lB_prn F
                rw [← hh]
                have hp := List.length_pos_iff.2 f2
                obtain ⟨m, hm⟩ : ∃ m, F.length = m + 1 := ⟨F.length - 1, by omega⟩
                rw [hm, prnC, List.length_append]
                have := evb_pos (F.getD (m - 1) default) (F.getD m default)
                omega
              obtain ⟨S, hSS⟩ : ∃ S : ByteArray, S = ⟨(lB F).toArray⟩ := ⟨_, rfl⟩
              have hSz : S.size = (lB F).length := by rw [hSS]; show (List.toArray _).size = _; rw [List.size_toArray]
              rw [← hSS] at hpr
              have n0 : S.size ≤ room := by omega
              have n1 : ¬ (room : Int) < S.size := by omega
              have n2 : ¬ (S.size : Int) = 0 := by omega
              have HFF := Lib.hid (And.intro f1 (And.intro f2 (And.intro f3 (And.intro hE (And.intro hbel hevo)))))
              clear hS hSS hSz f1 f2 f3 hE hevo h3B
              go_upto_region 15 with ((go_at_call 27; (with_reducible refine hpr.mono ?_); rintro a w13 ⟨rfl, hk13⟩))
              have hB13 := hal.trans (hk13.mono hal.size)
              have hob13 := (hk13.block _ (blk_lt hob)).trans hob
              obtain ⟨o, ho⟩ : ∃ o, o = wr.heap.size := ⟨_, rfl⟩
              clear hpr hevo2 c0 c1 c2 c3 hk13 hal
              have nd1 : decide ((room : Int) < S.size) = false := decide_eq_false (fun q => by have := n0; omega)
              have nd2 : ((S.size : Int) == 0) = false := beq_eq_false_iff_ne.2 n2
              by_cases hn : j + 1 < fr.length
              · have hn2 : j + 1 < its.length := by have := hlen.out.1; omega
                have hn' : ((j : Int) + 1) < its.length := by omega
                have hnd : decide (((j : Int) + 1) < its.length) = true := decide_eq_true hn'
                have hE13 := HFF.out.2.2.2.1.below hB13
                obtain ⟨b2, off2, hoa2, hbl2, hc2⟩ := (slItm_own hE13.it.own).2.2 (j + 1) hn2
                simp only [Option.some.injEq, Addr.mk.injEq, and_true] at hoa2
                obtain ⟨rfl, rfl⟩ := hoa2
                have hEv2 : EvIn w13 w9.heap.size (its.getD (j + 1) default) := hE13.it.evs _ (by rw [List.getD_eq_getElem?_getD, List.getElem?_eq_getElem hn2]; exact List.getElem_mem hn2)
                obtain ⟨_, _, _, t4⟩ := hE13.at hn2
                obtain ⟨⟨so2, sc2, hsv⟩, hevn⟩ := hEv2
                have c3 := hc2 3 (by decide)
                dsimp only [Itm.f] at c3
                rw [hsv] at c3 hevn
                rw [t4] at c3 hevn
                obtain ⟨F2, hF2⟩ : ∃ F2, F2 = fr.getD (j + 1) [] := ⟨_, rfl⟩
                rw [← hF2] at c3 hevn
                obtain ⟨g1, g2, g3⟩ := hlen.out.2.1 F2 (by rw [hF2]; exact mem_getD hn)
                have hnp : Np room F F2 := by rw [HF.out, hF2]; exact hlen.out.2.2 j hn
                obtain ⟨e, te, hF2e⟩ : ∃ e te, F2 = e :: te := List.exists_cons_of_ne_nil g2
                have he2 := hnp e (by rw [hF2e]; rfl)
                have hew : e.Wf := by have := lOk_wf g1 0 (by rw [hF2e]; simp); rw [hF2e] at this; exact this
                obtain ⟨K2, hK2⟩ : ∃ K2, K2 = F2.length := ⟨_, rfl⟩
                have hK2p : 0 < K2 := by rw [hK2, hF2e]; simp
                obtain ⟨b3, off3, hoa3, hbl3, hc3⟩ := (slArgN_own hevn).2.2 0 (by rw [hF2e]; simp)
                have x0 := hc3 0 (by decide)
                have x1 := hc3 1 (by decide)
                have x2 := hc3 2 (by decide)
                have x3 := hc3 3 (by decide)
                have x4 := hc3 4 (by decide)
                have x5 := hc3 5 (by decide)
                rw [hF2e] at x0 x1 x2 x3 x4 x5
                dsimp only [Ev.f, Nat.add_zero, Nat.zero_mul, List.getD_cons_zero] at x0 x1 x2 x3 x4 x5
                subst hoa3
                rw [← hK2] at c3
                have tn : ((j : Int) + 1).toNat = j + 1 := by omega
                have hK2i : (0 : Int) < K2 := by omega
                have hK2d : decide ((0 : Int) < K2) = true := decide_eq_true hK2i
                have hev13 := own_below HFF.out.2.2.2.2.2 hB13
                have HN := Lib.hid (And.intro he2 (And.intro hew hev13))
                have d3 : w13.cell? ⟨wr.heap.size, 3, none⟩ = some (.slice so F.length sc) := by rw [cell_blk hob13]; rfl
                clear hE13 hc2 hsv hevn t4 hF2 g1 g2 g3 hnp he2 hew hF2e hK2 hc3 hev13
                go_upto_region 18 with fail
                obtain ⟨i1, hi1, hy0, hy1, hy2⟩ := ev_info
                have ul : Try.prog.underlying 40 = some (.slice 25) := by kernel_rfl
                have hk1 := ((Below.refl w13.heap.size w13).drew).alloc (Nat.le_refl _) (.cells #[] 25)
                have hlitA := World.ownsRow_lit (e := 25) (base := w13.heap.size) (size := 6) w13.drew #[] 0 (Nat.le_refl _) (by decide) rfl
                have hsrA := src_own (own_below HN.out.2.2 hk1) (evCells_length _)
                have hol := blk_lt hob13
                have hal0 := (Below.refl w13.heap.size w13).alloc (Nat.le_refl _) (.cells #[] 25)
                have hwj : IntKind.i64.wrap ((j : Int) + 1) = (j : Int) + 1 := IntWalk.i64_in _ (by omega)
                have h0j : (0 : Int) ≤ (j : Int) + 1 := by omega
                have d3a := (hal0.cell (p := ⟨wr.heap.size, 3, none⟩) hol).trans d3
                have c3a := (hal0.cell (p := ⟨b', off + (j + 1) * 4 + 3, none⟩) hbl2).trans c3
                have x0a := (hal0.cell (p := ⟨b3, off3, none⟩) hbl3).trans x0
                have x1a := (hal0.cell (p := ⟨b3, off3 + 1, none⟩) hbl3).trans x1
                have x2a := (hal0.cell (p := ⟨b3, off3 + 2, none⟩) hbl3).trans x2
                have x3a := (hal0.cell (p := ⟨b3, off3 + 3, none⟩) hbl3).trans x3
                have x4a := (hal0.cell (p := ⟨b3, off3 + 4, none⟩) hbl3).trans x4
                have x5a := (hal0.cell (p := ⟨b3, off3 + 5, none⟩) hbl3).trans x5
                have hkB0 := hal0.trans (((Below.refl (w13.alloc (.cells #[] 25)).heap.size (w13.alloc (.cells #[] 25))).alloc (Nat.le_refl _) (.cells #[.int .i64 e.k, .int .u64 e.cy, .int .u64 e.ct, .int .u32 e.a, .int .u32 e.b, .int .u32 e.v] 25)).mono hal0.size)
                have hkB := hkB0.drew
                have hlitB := own_below (w' := ((w13.alloc (.cells #[] 25)).alloc (.cells #[.int .i64 e.k, .int .u64 e.cy, .int .u64 e.ct, .int .u32 e.a, .int .u32 e.b, .int .u32 e.v] 25)).drew) (World.ownsRow_lit (e := 25) (base := w13.heap.size) (size := 6) w13 #[] 0 (Nat.le_refl _) (by decide) rfl) (((Below.refl (w13.alloc (.cells #[] 25)).heap.size (w13.alloc (.cells #[] 25))).alloc (Nat.le_refl _) (.cells #[.int .i64 e.k, .int .u64 e.cy, .int .u64 e.ct, .int .u32 e.a, .int .u32 e.b, .int .u32 e.v] 25)).drew)
                have hsrB := src_own (own_below HN.out.2.2 hkB) (evCells_length _)
                have hlB : ((w13.alloc (.cells #[] 25)).alloc (.cells #[.int .i64 e.k, .int .u64 e.cy, .int .u64 e.ct, .int .u32 e.a, .int .u32 e.b, .int .u32 e.v] 25)).drew.heap[w13.heap.size + 1]? = some (.cells e.cells.toArray 25 (0, 0)) := by
                  have := heap_alloc_new (w13.alloc (.cells #[] 25)) (.cells #[.int .i64 e.k, .int .u64 e.cy, .int .u64 e.ct, .int .u32 e.a, .int .u32 e.b, .int .u32 e.v] 25)
                  rw [World.size_alloc] at this
                  exact this
                have halE := (Below.refl w13.heap.size w13).alloc (Nat.le_refl _) (.cells #[.int .i64 e.k, .int .u64 e.cy, .int .u64 e.ct, .int .u32 e.a, .int .u32 e.b, .int .u32 e.v] 25)
                have hkC := (halE.trans (((Below.refl (w13.alloc (.cells #[.int .i64 e.k, .int .u64 e.cy, .int .u64 e.ct, .int .u32 e.a, .int .u32 e.b, .int .u32 e.v] 25)).heap.size (w13.alloc (.cells #[.int .i64 e.k, .int .u64 e.cy, .int .u64 e.ct, .int .u32 e.a, .int .u32 e.b, .int .u32 e.v] 25))).alloc (Nat.le_refl _) (.cells #[] 25)).mono halE.size)).drew
                have hlitC0 := World.ownsRow_lit (e := 25) (base := w13.heap.size) (size := 6) (w13.alloc (.cells #[.int .i64 e.k, .int .u64 e.cy, .int .u64 e.ct, .int .u32 e.a, .int .u32 e.b, .int .u32 e.v] 25)) #[] 0 (by simp) (by decide) rfl
                rw [World.size_alloc] at hlitC0
                have hlitC : (((w13.alloc (.cells #[.int .i64 e.k, .int .u64 e.cy, .int .u64 e.ct, .int .u32 e.a, .int .u32 e.b, .int .u32 e.v] 25)).alloc (.cells #[] 25)).drew).ownsRow w13.heap.size 25 6 (.slice (some ⟨w13.heap.size + 1, 0, none⟩) 0 0) 0 [] := hlitC0
                clear hlitC0
                have hsrC := src_own (own_below HN.out.2.2 hkC) (evCells_length _)
                have hlC : (((w13.alloc (.cells #[.int .i64 e.k, .int .u64 e.cy, .int .u64 e.ct, .int .u32 e.a, .int .u32 e.b, .int .u32 e.v] 25)).alloc (.cells #[] 25)).drew).heap[w13.heap.size]? = some (.cells e.cells.toArray 25 (0, 0)) := blk_alloc (heap_alloc_new w13 (.cells #[.int .i64 e.k, .int .u64 e.cy, .int .u64 e.ct, .int .u32 e.a, .int .u32 e.b, .int .u32 e.v] 25)) _
                have d3c := (halE.cell (p := ⟨wr.heap.size, 3, none⟩) hol).trans d3
                go_cut [14, 53] from 53 to 119 (fun s14 s53 wx => s53 = .int .i64 j ∧ ∃ ao6 cp6, s14 = .slice ao6 (F.length + 1) cp6 ∧ wx.ownsRow w13.heap.size 25 6 (.slice ao6 (F.length + 1) cp6) (F.length + 1) (evCells F ++ evCells [e]) ∧ Below w13.heap.size w13 wx)
                case first =>
                  go_region_law (first | (refine step_append rfl (.tmp 92) (.tmp 94) 40 rfl w13.heap.size (by first | (simp; done) | (simp; omega)) 25 i1 _ 6 40 ul hi1 hy0 hy1 hy2 rfl (by decide) (.slice (some ⟨w13.heap.size, 0, none⟩) 0 0) 0 [] rfl hlitA _ F.length (evCells F) rfl (evCells_length _) hsrA (evCells_one _) (by unfold maxLen; omega) (by omega) ?_; intro ao5 cp5 w14 hown5 hg5 hat5; have hk2 := below_append hk1 hlitA hg5 (by first | (simp; done) | (simp; omega)); have c3b := (hk2.cell (p := ⟨b', off + (j + 1) * 4 + 3, none⟩) hbl2).trans c3; have y0 := (hk2.cell (p := ⟨b3, off3, none⟩) hbl3).trans x0; have y1 := (hk2.cell (p := ⟨b3, off3 + 1, none⟩) hbl3).trans x1; have y2 := (hk2.cell (p := ⟨b3, off3 + 2, none⟩) hbl3).trans x2; have y3 := (hk2.cell (p := ⟨b3, off3 + 3, none⟩) hbl3).trans x3; have y4 := (hk2.cell (p := ⟨b3, off3 + 4, none⟩) hbl3).trans x4; have y5 := (hk2.cell (p := ⟨b3, off3 + 5, none⟩) hbl3).trans x5; simp only [Nat.zero_add, List.nil_append] at hown5; have hk2s := hk2.size; have hal15 := (Below.refl w14.heap.size w14).alloc (Nat.le_refl _) (.cells #[.int .i64 e.k, .int .u64 e.cy, .int .u64 e.ct, .int .u32 e.a, .int .u32 e.b, .int .u32 e.v] 25); have hown5b := own_below hown5 hal15; have hsr2 := src_ev w14 e) | (refine step_append rfl (.tmp 92) (.tmp 94) 40 rfl w13.heap.size (by first | (simp; done) | (simp; omega)) 25 i1 _ 6 40 ul hi1 hy0 hy1 hy2 rfl (by decide) (.slice (some ⟨w13.heap.size, 0, none⟩) 0 0) 0 [] rfl hlitB _ F.length (evCells F) rfl (evCells_length _) hsrB (evCells_one _) (by unfold maxLen; omega) (by omega) ?_; intro ao5 cp5 w14 hown5 hg5 hat5; have hk2 := below_append hkB hlitB hg5 (by first | (simp; done) | (simp; omega)); have c3b := (hk2.cell (p := ⟨b', off + (j + 1) * 4 + 3, none⟩) hbl2).trans c3; have y0 := (hk2.cell (p := ⟨b3, off3, none⟩) hbl3).trans x0; have y1 := (hk2.cell (p := ⟨b3, off3 + 1, none⟩) hbl3).trans x1; have y2 := (hk2.cell (p := ⟨b3, off3 + 2, none⟩) hbl3).trans x2; have y3 := (hk2.cell (p := ⟨b3, off3 + 3, none⟩) hbl3).trans x3; have y4 := (hk2.cell (p := ⟨b3, off3 + 4, none⟩) hbl3).trans x4; have y5 := (hk2.cell (p := ⟨b3, off3 + 5, none⟩) hbl3).trans x5; simp only [Nat.zero_add, List.nil_append] at hown5; have hk2s := hk2.size; have hsr2B : Src w14 (.slice (some ⟨w13.heap.size + 1, 0, none⟩) 1 1) 1 (evCells [e]) := src_blk ((hg5.block _ (by first | (simp; done) | (simp; omega)) (fun q => absurd (Option.some.inj q) (Nat.succ_ne_self _))).trans hlB)) | (refine step_append rfl (.tmp 92) (.tmp 94) 40 rfl w13.heap.size (by first | (simp; done) | (simp; omega)) 25 i1 _ 6 40 ul hi1 hy0 hy1 hy2 rfl (by decide) (.slice (some ⟨w13.heap.size + 1, 0, none⟩) 0 0) 0 [] rfl hlitC _ F.length (evCells F) rfl (evCells_length _) hsrC (evCells_one _) (by unfold maxLen; omega) (by omega) ?_; intro ao5 cp5 w14 hown5 hg5 hat5; have hk2 := below_append hkC hlitC hg5 (by first | (simp; done) | (simp; omega)); have c3b := (hk2.cell (p := ⟨b', off + (j + 1) * 4 + 3, none⟩) hbl2).trans c3; have y0 := (hk2.cell (p := ⟨b3, off3, none⟩) hbl3).trans x0; have y1 := (hk2.cell (p := ⟨b3, off3 + 1, none⟩) hbl3).trans x1; have y2 := (hk2.cell (p := ⟨b3, off3 + 2, none⟩) hbl3).trans x2; have y3 := (hk2.cell (p := ⟨b3, off3 + 3, none⟩) hbl3).trans x3; have y4 := (hk2.cell (p := ⟨b3, off3 + 4, none⟩) hbl3).trans x4; have y5 := (hk2.cell (p := ⟨b3, off3 + 5, none⟩) hbl3).trans x5; simp only [Nat.zero_add, List.nil_append] at hown5; have hk2s := hk2.size; have hsr2C : Src w14 (.slice (some ⟨w13.heap.size, 0, none⟩) 1 1) 1 (evCells [e]) := src_blk ((hg5.block _ (by first | (simp; done) | (simp; omega)) (fun q => absurd (Option.some.inj q).symm (Nat.succ_ne_self _))).trans hlC)) | (refine step_append rfl (.tmp 95) (.tmp 104) 40 rfl w13.heap.size (by simp; omega) 25 i1 _ 6 40 ul hi1 hy0 hy1 hy2 rfl (by decide) (.slice ao5 F.length cp5) F.length (evCells F) rfl hown5b _ 1 (evCells [e]) rfl rfl hsr2 (evCells_one _) (by unfold maxLen; omega) (by omega) ?_; intro ao6 cp6 w15 hown6 hg6 hat6; have hk3 := below_append (hk2.trans (hal15.mono hk2s)) hown5b hg6 (by first | omega | (simp; omega))) | (refine step_append rfl (.tmp 95) (.tmp 104) 40 rfl w13.heap.size hk2s 25 i1 _ 6 40 ul hi1 hy0 hy1 hy2 rfl (by decide) (.slice ao5 F.length cp5) F.length (evCells F) rfl hown5 _ 1 (evCells [e]) rfl rfl hsr2B (evCells_one _) (by unfold maxLen; omega) (by omega) ?_; intro ao6 cp6 w15 hown6 hg6 hat6; have hk3 := below_append hk2 hown5 hg6 (by first | omega | (simp; omega))) | (refine step_append rfl (.tmp 95) (.tmp 104) 40 rfl w13.heap.size hk2s 25 i1 _ 6 40 ul hi1 hy0 hy1 hy2 rfl (by decide) (.slice ao5 F.length cp5) F.length (evCells F) rfl hown5 _ 1 (evCells [e]) rfl rfl hsr2C (evCells_one _) (by unfold maxLen; omega) (by omega) ?_; intro ao6 cp6 w15 hown6 hg6 hat6; have hk3 := below_append hk2 hown5 hg6 (by first | omega | (simp; omega))))
                  all_goals (go_wp2_with fail; go_meet; exact ⟨rfl, ao6, cp6, rfl, hown6, hk3⟩)
                case rest =>
                  obtain ⟨rfl, ao6, cp6, rfl, hown6, hk3⟩ := hcut
                  have e1 : evCells F ++ evCells [e] = evCells (F ++ [e]) := by simp [evCells]
                  have hle1 : F.length + 1 = (F ++ [e]).length := by simp
                  have hsl6 : SlArgN wc ao6 (F.length + 1) cp6 6 (fun i j => ((F ++ [e]).getD i default).f j) := by
                    rw [e1, hle1] at hown6
                    rw [hle1]
                    exact slArgN_own hown6
                  have hwf6 : ∀ i, i < F.length + 1 → ((F ++ [e]).getD i default).Wf := by
                    intro i hi
                    by_cases h1 : i < F.length
                    · have := lOk_wf HFF.out.1 i h1
                      rw [List.getD_eq_getElem?_getD] at this ⊢
                      rw [List.getElem?_append_left h1]
                      exact this
                    · obtain rfl : i = F.length := by omega
                      rw [List.getD_eq_getElem?_getD, List.getElem?_append_right (Nat.le_refl _), Nat.sub_self]
                      exact HN.out.2.1
                  have hpr2 := rprn_any wc ao6 (F.length + 1) cp6 (fun i => (F ++ [e]).getD i default) hsl6 hwf6 (by omega)
                  obtain ⟨E2, hE2⟩ : ∃ E2, E2 = prnE (fun i => (F ++ [e]).getD i default) (F.length + 1) := ⟨_, rfl⟩
                  obtain ⟨S2, hS2⟩ : ∃ S2 : ByteArray, S2 = ⟨(prnS (fun i => (F ++ [e]).getD i default) (F.length + 1)).toArray⟩ := ⟨_, rfl⟩
                  rw [← hE2, ← hS2] at hpr2
                  have hno : E2 = 0 → ¬ (S2.size : Int) ≤ room := by
                    intro h0 h1
                    rw [hE2, hle1] at h0
                    have hlo := prn_lOk (by rw [← hle1]; exact hwf6) h0
                    refine HN.out.1 ⟨hlo, ?_⟩
                    have hs2 : S2.size = (lB (F ++ [e])).length := by
                      rw [hS2, hle1]
                      show (List.toArray _).size = _
                      rw [List.size_toArray]
                      unfold prnS
                      rw [if_pos h0, lB_prn]
                    omega
                  clear hE2 hS2 hsl6 hwf6 hown6 e1 hle1
                  by_cases h0 : E2 = 0
                  · have h1 := hno h0
                    subst h0
                    have h1d : decide ((S2.size : Int) ≤ room) = false := decide_eq_false h1
                    go_wp2_with ((go_at_call 27; (with_reducible refine hpr2.mono ?_); rintro a w16 ⟨rfl, hk16⟩))
                    obtain ⟨gg, rfl⟩ : ∃ gg, gk = gg + 1 := ⟨gk - 1, by omega⟩
                    go_roundg gg
                    case measure => omega
                    case rel =>
                      have b1 := HFF.out.2.2.2.2.1.trans (hB13.mono HFF.out.2.2.2.2.1.size)
                      have b2 := b1.trans (hk3.mono b1.size)
                      exact ⟨j + 1, by go_num, by omega, b2.trans (hk16.mono b2.size), by omega⟩
                  · have h1d : (E2 == 0) = false := beq_eq_false_iff_ne.2 h0
                    have h2d : decide (E2 = 0) = false := decide_eq_false h0
                    go_wp2_with ((go_at_call 27; (with_reducible refine hpr2.mono ?_); rintro a w16 ⟨rfl, hk16⟩))
                    obtain ⟨gg, rfl⟩ : ∃ gg, gk = gg + 1 := ⟨gk - 1, by omega⟩
                    go_roundg gg
                    case measure => omega
                    case rel =>
                      have b1 := HFF.out.2.2.2.2.1.trans (hB13.mono HFF.out.2.2.2.2.1.size)
                      have b2 := b1.trans (hk3.mono b1.size)
                      exact ⟨j + 1, by go_num, by omega, b2.trans (hk16.mono b2.size), by omega⟩
              · have hn' : ¬ ((j : Int) + 1) < its.length := by have := hlen.out.1; omega
                have hnd : decide (((j : Int) + 1) < its.length) = false := decide_eq_false hn'
                go_wp2_with fail
                obtain ⟨gg, rfl⟩ : ∃ gg, gk = gg + 1 := ⟨gk - 1, by omega⟩
                go_roundg gg
                case measure => omega
                case rel => exact ⟨j + 1, by go_num, by omega, HFF.out.2.2.2.2.1.trans (hB13.mono HFF.out.2.2.2.2.1.size), by omega⟩
            · have hlt2 : ¬ j < its.length := by have := hlen.out.1; omega
              have hlt' : ¬ (j : Int) < its.length := by omega
              obtain rfl : j = fr.length := by omega
              have hfrm := fr_frames hE.fs
              have hee : (its.length : Int) = fr.length := by have := hlen.out.1; omega
              go_wp2_with ((go_at_call 19; (refine hfrm.mono ?_); rintro a w15 ⟨rfl, rfl⟩))
              go_ret
              exact ⟨by simp, hB12.trans (hbel.mono hB12.size)⟩
    · have hd : decide ((300 : Int) < len) = true := by simp; omega
      go_wp2_with fail
      refine (awake23 _).mono ?_
      rintro a w4 ⟨rfl, hk4⟩
      go_wp2_with fail
      go_ret
      exact ⟨rfl, (st.below hk4).bel⟩
end Go.Proofs.Ytbfipgeoecbpaaa
