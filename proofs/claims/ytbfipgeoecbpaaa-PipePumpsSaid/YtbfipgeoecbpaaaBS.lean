/- A bundle of: FrS FrA FrO FrQ. -/
import Derived.Test.YtbfipgeoecbpaaaBT
import Derived.Test.YtbfipgeoecbpaaaBR
import Derived.Test.YtbfipgeoecbpaaaBC
import Derived.Deep.DeepMust
import Derived.Deep.DeepCutAuto
import Derived.Deep.AppendLies
import Derived.Deep.RegionHeld3
/- Contracts of ref07.Marker and ref07.Read. No condition but those that each names. (Printed by gen_frs.py.) -/
namespace Go.Proofs.Ytbfipgeoecbpaaa
open Go.RowKit
set_option maxRecDepth 20000
theorem rep_snoc (k : Nat) : (⟨(List.replicate k (255 : UInt8)).toArray⟩ : ByteArray) ++ ⟨#[255]⟩ = ⟨(List.replicate (k + 1) (255 : UInt8)).toArray⟩ := by
  have := str_cat (List.replicate k (255 : UInt8)) [255]
  rw [← List.replicate_succ'] at this
  exact this
theorem rmk_any (w : World) : Calls Try.prog 90 #[] w fun e w' => e = .returned (.string ⟨mk.toArray⟩) ∧ ∃ n, w.drewN n = w' := by
  go_enter Try.func90, Try.ntmps90
  go_wp2_with fail
  go_loopw [1, 2] (fun x k wr => ∃ (i n : Nat), k = .int .i64 i ∧ i ≤ 16 ∧ x = .string ⟨(List.replicate i (255 : UInt8)).toArray⟩ ∧ wr = w.drewN n) (fun _ k _ => 16 - (intOf k).toNat)
  case atStart => exact ⟨0, 0, rfl, by omega, rfl, rfl⟩
  case round =>
    obtain ⟨i, n, rfl, hi, rfl, rfl⟩ := hrel
    have hsz : (⟨(List.replicate i (255 : UInt8)).toArray⟩ : ByteArray).size = i := by show (List.toArray _).size = _; simp
    by_cases hlt : i < 16
    · have hil : (i : Int) < 16 := by omega
      have HS := Lib.hid (rep_snoc i)
      generalize (⟨(List.replicate i (255 : UInt8)).toArray⟩ : ByteArray) = X at hsz HS ⊢
      go_wp2_with fail
      go_roundw
      case rel => exact ⟨i + 1, _, by go_num, by omega, by rw [← HS.out], rfl⟩
      case measure => simp [intOf]; omega
    · obtain rfl : i = 16 := by omega
      have HS := Lib.hid (str_cat (List.replicate 16 (255 : UInt8)) [84, 65, 70, 82, 73, 76])
      generalize (⟨(List.replicate 16 (255 : UInt8)).toArray⟩ : ByteArray) = X at hsz HS ⊢
      go_wp2_with fail
      go_ret
      exact ⟨congrArg (fun x => Ending.returned (.string x)) HS.out, _, rfl⟩
structure QSt (w : World) (FB : Nat) (wr : World) : Prop where
  bel : Below w.heap.size w wr
  fb : wr.heap[FB]? = some (.cells #[.int .u32 0, .slice none 0 0] 110 (0, 0))
  lo : w.heap.size ≤ FB
theorem QSt.below {w : World} {FB : Nat} {wr w2 : World} (h : QSt w FB wr) (k : Below wr.heap.size wr w2) : QSt w FB w2 :=
  { h with bel := h.bel.trans (k.mono h.bel.size), fb := (k.block _ (blk_lt h.fb)).trans h.fb }
theorem QSt.drew {w : World} {FB : Nat} {wr w2 : World} (h : QSt w FB wr) (k : ∃ n, wr.drewN n = w2) : QSt w FB w2 := by
  obtain ⟨n, rfl⟩ := k
  exact h.below (kept_drewN wr n)
theorem QSt.cells {w : World} {FB : Nat} {wr : World} (h : QSt w FB wr) : wr.cell? ⟨FB, 0, none⟩ = some (.int .u32 0) ∧ wr.cell? ⟨FB, 1, none⟩ = some (.slice none 0 0) := by
  refine ⟨?_, ?_⟩ <;> (rw [cell_blk h.fb]; rfl)
theorem q_err {w : World} {FB : Nat} {wr : World} {R : Int × Nat × List Ev × Nat} {er : Int} (h : QSt w FB wr) (hR : R = (er, 0, [], 0)) :
    FrPost w R (.returned (.tuple #[.agg #[.int .u32 0, .slice none 0 0], .int .i64 0, .int .i64 er])) ((wr.setCell ⟨FB, 0, none⟩ (.int .u32 0)).setCell ⟨FB, 1, none⟩ (.slice none 0 0)) := by
  subst hR
  exact ⟨none, 0, rfl, World.ownsRow_nil _ _ _ _, bel_set3 (bel_set3 h.bel _ _ h.lo) _ _ h.lo⟩
theorem q_ok {w : World} {FB : Nat} {wr : World} {R : Int × Nat × List Ev × Nat} {a n : Nat} {l : List Ev} {ao : Option Addr} {cap : Nat} (h : QSt w FB wr)
    (hown : wr.ownsRow w.heap.size 25 6 (.slice ao l.length cap) l.length (evCells l)) (hR : R = (0, a, l, n)) :
    FrPost w R (.returned (.tuple #[.agg #[.int .u32 a, .slice ao l.length cap], .int .i64 n, .int .i64 0])) ((wr.setCell ⟨FB, 0, none⟩ (.int .u32 a)).setCell ⟨FB, 1, none⟩ (.slice ao l.length cap)) := by
  subst hR
  have hfb := h.fb
  have ho : Only (fun k => k = FB) wr ((wr.setCell ⟨FB, 0, none⟩ (.int .u32 a)).setCell ⟨FB, 1, none⟩ (.slice ao l.length cap)) := ((Only.refl (fun k => k = FB) wr).setCell ⟨FB, 0, none⟩ _ fun _ => rfl).setCell ⟨FB, 1, none⟩ _ fun _ => rfl
  refine ⟨ao, cap, rfl, ?_, bel_set3 (bel_set3 h.bel _ _ h.lo) _ _ h.lo⟩
  rcases hown.2 with h0 | ⟨g, cp, cur, hv, hbg, hb, hr⟩
  · exact ⟨hown.1, .inl h0⟩
  · refine ⟨hown.1, .inr ⟨g, cp, cur, hv, hbg, ho.keeps hb (fun e => ?_), hr⟩⟩
    have e : g = FB := e
    rw [e, hfb] at hb
    simp at hb
theorem agr_at {s : ByteArray} {p i : Nat} (hi : i < 22) (hps : p + i < s.size) : (mk[i]'(hi) = s[p + i] → agrL (mk.drop i) ((s.data.toList.drop p).drop i) = agrL (mk.drop (i + 1)) ((s.data.toList.drop p).drop (i + 1)) + 1) ∧ (mk[i]'(hi) ≠ s[p + i] → agrL (mk.drop i) ((s.data.toList.drop p).drop i) = 0) := by
  have h2 : i < (s.data.toList.drop p).length := by simp; exact Nat.lt_sub_of_add_lt (by rw [Nat.add_comm]; exact hps)
  have he : (s.data.toList.drop p)[i] = s[p + i] := by simp; rfl
  constructor
  · intro h
    exact agrL_step (t := mk) hi h2 (by rw [he]; exact h)
  · intro h
    exact agrL_ne (t := mk) hi h2 (by rw [he]; exact h)
set_option maxHeartbeats 8000000 in
theorem rfread_any (w : World) (s : ByteArray) (hs : s.size ≤ 1000000000) (at_ : Int) :
    Calls Try.prog 68 #[.string s, .int .i64 at_] w (FrPost w (frR s at_)) := by
  have hs' : s.size ≤ 140737488355328 := by omega
  have HS := Lib.hid hs
  clear hs
  have st0 : QSt w w.heap.size (w.alloc (.cells #[.int .u32 0, .slice none 0 0] 110)) :=
    { bel := (Below.refl w.heap.size w).alloc (Nat.le_refl _) _
      fb := heap_alloc_new w _
      lo := Nat.le_refl _ }
  by_cases hat : at_ < 0 ∨ (s.size : Int) < at_
  · have HR := Lib.hid (show frR s at_ = (1, 0, [], 0) by unfold frR; rw [if_pos hat])
    rcases hat with hat | hat
    · go_enter Try.func68, Try.ntmps68
      go_upto_region 1 with fail
      generalize w.alloc (.cells #[.int .u32 0, .slice none 0 0] 110) = W0 at st0 ⊢
      obtain ⟨FB, hFB⟩ : ∃ FB, FB = w.heap.size := ⟨_, rfl⟩
      rw [← hFB] at st0 ⊢
      clear hFB
      obtain ⟨y0, y1⟩ := st0.cells
      have yf0 := frozen_blk st0.fb 0
      have yf1 := frozen_blk st0.fb 1
      go_wp2_with fail
      exact bodyPost_ret (v := .tuple #[.agg #[.int .u32 0, .slice none 0 0], .int .i64 0, .int .i64 1]) (by simp [results, Try.results68, go_sem, y0, y1]) rfl (q_err st0 HR.out)
    · have hat' : ¬ at_ < 0 := by omega
      go_enter Try.func68, Try.ntmps68
      go_upto_region 1 with fail
      generalize w.alloc (.cells #[.int .u32 0, .slice none 0 0] 110) = W0 at st0 ⊢
      obtain ⟨FB, hFB⟩ : ∃ FB, FB = w.heap.size := ⟨_, rfl⟩
      rw [← hFB] at st0 ⊢
      clear hFB
      obtain ⟨y0, y1⟩ := st0.cells
      have yf0 := frozen_blk st0.fb 0
      have yf1 := frozen_blk st0.fb 1
      go_wp2_with fail
      exact bodyPost_ret (v := .tuple #[.agg #[.int .u32 0, .slice none 0 0], .int .i64 0, .int .i64 1]) (by simp [results, Try.results68, go_sem, y0, y1]) rfl (q_err st0 HR.out)
  · obtain ⟨p, rfl⟩ : ∃ p : Nat, at_ = p := ⟨at_.toNat, by omega⟩
    have hp : p ≤ s.size := by omega
    have hp' : ¬ (s.size : Int) < p := by omega
    have HRf := Lib.hid (show frR s (p : Int) = fRd s p by unfold frR; rw [if_neg hat]; rfl)
    clear hat
    go_enter Try.func68, Try.ntmps68
    go_upto_region 1 with fail
    generalize w.alloc (.cells #[.int .u32 0, .slice none 0 0] 110) = W0 at st0 ⊢
    obtain ⟨FB, hFB⟩ : ∃ FB, FB = w.heap.size := ⟨_, rfl⟩
    rw [← hFB] at st0 ⊢
    have HFB := Lib.hid hFB
    clear hFB
    go_wp2_with fail
    refine (rmk_any _).mono ?_
    rintro x w1 ⟨rfl, hn1⟩
    have st1 := st0.drew hn1
    clear st0 hn1
    obtain ⟨M, hM⟩ : ∃ M : ByteArray, M = ⟨mk.toArray⟩ := ⟨_, rfl⟩
    have hMs : M.size = 22 := by rw [hM]; rfl
    have hMg : ∀ (i : Nat) (h : i < M.size), M[i] = mk[i]'(by rw [hMs] at h; exact h) := by intro i h; subst hM; rfl
    rw [← hM]
    have HMM := Lib.hid hM
    have HMg := Lib.hid hMg
    clear hMg
    have HE0 := Lib.hid (show fhE s p = if agree s p ⟨mk.toArray⟩ < 22 then (if agree s p ⟨mk.toArray⟩ = s.size - p then 2 else 3)
      else if (fh1 s p).2.1 ≠ 0 then (fh1 s p).2.1 else if (fh2 s p).2.1 ≠ 0 then (fh2 s p).2.1 else if (fh3 s p).2.1 ≠ 0 then (fh3 s p).2.1 else if (fh4 s p).2.1 ≠ 0 then (fh4 s p).2.1
      else if (fh4 s p).1 < 1 ∨ 120 < (fh4 s p).1 then 4 else smE s (fh4 s p).2.2 (fhB s p) from rfl)
    have hag := agree_le s p hp
    have hag0 : agree s p ⟨mk.toArray⟩ = agrL mk (s.data.toList.drop p) := rfl
    generalize agree s p ⟨mk.toArray⟩ = ag at hag hag0 HE0
    clear hM
    have HAG := Lib.hid (And.intro hag hag0)
    clear hag hag0
    go_wp2_with fail
    go_loopw [8] (fun k wr => ∃ (i : Nat), k = .int .i64 i ∧ i ≤ 22 ∧ p + i ≤ s.size ∧ ag = i + agrL (mk.drop i) ((s.data.toList.drop p).drop i) ∧ QSt w FB wr) (fun k _ => 22 - (intOf k).toNat)
    case atStart => exact ⟨0, rfl, by omega, by omega, by simpa using HAG.out.2, st1⟩
    case round =>
      clear st1
      obtain ⟨i, rfl, hi, hpi, hagi, st2⟩ := hrel
      have HI := Lib.hid hagi
      clear hagi
      obtain ⟨y0, y1⟩ := st2.cells
      have yf0 := frozen_blk st2.fb 0
      have yf1 := frozen_blk st2.fb 1
      by_cases hlt : i < 22
      · have hil : (i : Int) < 22 := by omega
        by_cases hin : p + i < s.size
        · have hini : ¬ (s.size : Int) ≤ (p : Int) + i := by omega
          have hini2 : (p : Int) + i < s.size := by omega
          have hat := @agr_at s p i hlt hin
          have hMi := HMg.out i (by omega)
          obtain ⟨c1, hc1⟩ : ∃ c : Nat, c = s[p + i].toNat := ⟨_, rfl⟩
          obtain ⟨c2, hc2⟩ : ∃ c : Nat, c = (M[i]'(by omega)).toNat := ⟨_, rfl⟩
          have hce : c1 = c2 ↔ mk[i] = s[p + i] := by
            rw [hc1, hc2, hMi]
            constructor
            · intro h; exact UInt8.toNat_inj.1 h.symm
            · intro h; rw [h]
          have hc1' : s[p + i].toNat = c1 := hc1.symm
          have hc2' : (M[i]'(by omega)).toNat = c2 := hc2.symm
          clear hc1 hc2 hMi
          by_cases hcc : c1 = c2
          · have HA := Lib.hid (hat.1 (hce.1 hcc))
            subst hcc
            have hd : ((c1 : Int) != c1) = false := by simp
            have hi1 : IntKind.i64.wrap ((p : Int) + i) = (p : Int) + i := by rw [IntKind.wrap_i64]; omega
            have hi2 : ((p : Int) + i).toNat = p + i := by omega
            clear hat hce
            go_wp2_with fail
            go_quiet (fail)
            go_wp2_with fail
            go_roundw
            case rel => exact ⟨i + 1, by go_num, by omega, by omega, by rw [HI.out, HA.out]; omega, st2.drew ⟨_, rfl⟩⟩
            case measure => simp [intOf]; omega
          · have hd : ((c1 : Int) != c2) = true := bne_iff_ne.2 (by omega)
            have hd2 : ((c1 : Int) == c2) = false := eqb_f (by omega)
            have hd3 : ¬ c1 = c2 := hcc
            have HA := Lib.hid (hat.2 (fun h => hcc (hce.2 h)))
            have HR := Lib.hid (show frR s (p : Int) = (3, 0, [], 0) by
              rw [HRf.out]
              have e1 : fhE s p = 3 := by
                have := HI.out
                have := HA.out
                rw [HE0.out, if_pos (by omega), if_neg (by omega)]
              unfold fRd
              rw [e1]
              rfl)
            have hi1 : IntKind.i64.wrap ((p : Int) + i) = (p : Int) + i := by rw [IntKind.wrap_i64]; omega
            have hi2 : ((p : Int) + i).toNat = p + i := by omega
            clear hat hce hcc
            go_wp2_with fail
            go_quiet (fail)
            go_wp2_with fail
            exact bodyPost_ret (v := .tuple #[.agg #[.int .u32 0, .slice none 0 0], .int .i64 0, .int .i64 3]) (by simp [results, Try.results68, go_sem, y0, y1]) rfl (q_err (st2.drew ⟨_, rfl⟩) HR.out)
        · have hini : (s.size : Int) ≤ (p : Int) + i := by omega
          have HR := Lib.hid (show frR s (p : Int) = (2, 0, [], 0) by
            rw [HRf.out]
            have e1 : fhE s p = 2 := by
              have := HI.out
              have := HAG.out.1
              rw [HE0.out, if_pos (by omega), if_pos (by omega)]
            unfold fRd
            rw [e1]
            rfl)
          go_wp2_with fail
          exact bodyPost_ret (v := .tuple #[.agg #[.int .u32 0, .slice none 0 0], .int .i64 0, .int .i64 2]) (by simp [results, Try.results68, go_sem, y0, y1]) rfl (q_err st2 HR.out)
      · obtain rfl : i = 22 := by omega
        have HE1 := Lib.hid (HE0.out.trans (if_neg (by have := HI.out; omega)))
        have hil : ¬ ((22 : Nat) : Int) < 22 := by omega
        clear y0 y1 yf0 yf1
        have st3 := st2
        clear st2
        obtain ⟨wQ, hwQ⟩ : ∃ x, x = wr := ⟨_, rfl⟩
        rw [← hwQ] at st3 ⊢
        clear hwQ
        have hcall := rword_any hpi hs' wQ
        have hfe : wrd s (p + 22) = fh1 s p := rfl
        have hnx := wrd_next s _ hpi
        rw [hfe] at hcall hnx
        clear hfe
        have hvl : (fh1 s p).1 ≤ 4294967295 := wrd_le s _ hpi
        obtain ⟨⟨v1, er1, q1⟩, hh⟩ : ∃ t, t = fh1 s p := ⟨_, rfl⟩
        rw [← hh] at hcall hnx hvl
        simp only at hcall hnx hvl
        have H1 := Lib.hid hh
        have q1le : q1 ≤ s.size := hnx
        clear hh hnx
        go_wp2_with fail
        refine hcall.mono ?_
        rintro x w5 ⟨rfl, rfl⟩
        clear hcall
        by_cases z1 : er1 = 0
        · have zz1 : ((er1 : Int) != 0) = false := by simp [z1]
          have Z1 := Lib.hid z1
          clear z1
          have hcall := r4get_any q1le hs' 10 wQ
          have hfe : sget s q1 10 = fh2 s p := by unfold fh2; rw [← H1.out]
          have hnx := (sget_next s _ 10 q1le).1
          rw [hfe] at hcall hnx
          clear hfe
          have hvl : (fh2 s p).1 < U64 := sget_lt s _ 10
          obtain ⟨⟨v2, er2, q2⟩, hh⟩ : ∃ t, t = fh2 s p := ⟨_, rfl⟩
          rw [← hh] at hcall hnx hvl
          simp only at hcall hnx hvl
          have H2 := Lib.hid hh
          have q2le : q2 ≤ s.size := hnx
          clear hh hnx
          go_wp2_with fail
          refine hcall.mono ?_
          rintro x w6 ⟨rfl, rfl⟩
          clear hcall
          by_cases z2 : er2 = 0
          · have zz2 : ((er2 : Int) != 0) = false := by simp [z2]
            have Z2 := Lib.hid z2
            clear z2
            have hcall := r4get_any q2le hs' 10 wQ
            have hfe : sget s q2 10 = fh3 s p := by unfold fh3; rw [← H2.out]
            have hnx := (sget_next s _ 10 q2le).1
            rw [hfe] at hcall hnx
            clear hfe
            have hvl : (fh3 s p).1 < U64 := sget_lt s _ 10
            obtain ⟨⟨v3, er3, q3⟩, hh⟩ : ∃ t, t = fh3 s p := ⟨_, rfl⟩
            rw [← hh] at hcall hnx hvl
            simp only at hcall hnx hvl
            have H3 := Lib.hid hh
            have q3le : q3 ≤ s.size := hnx
            clear hh hnx
            go_wp2_with fail
            refine hcall.mono ?_
            rintro x w7 ⟨rfl, rfl⟩
            clear hcall
            by_cases z3 : er3 = 0
            · have zz3 : ((er3 : Int) != 0) = false := by simp [z3]
              have Z3 := Lib.hid z3
              clear z3
              have hcall := r4get_any q3le hs' 2 wQ
              have hfe : sget s q3 2 = fh4 s p := by unfold fh4; rw [← H3.out]
              have hnx := (sget_next s _ 2 q3le).1
              rw [hfe] at hcall hnx
              clear hfe
              have hvl : (fh4 s p).1 < U64 := sget_lt s _ 2
              obtain ⟨⟨v4, er4, q4⟩, hh⟩ : ∃ t, t = fh4 s p := ⟨_, rfl⟩
              rw [← hh] at hcall hnx hvl
              simp only at hcall hnx hvl
              have H4 := Lib.hid hh
              have q4le : q4 ≤ s.size := hnx
              clear hh hnx
              go_wp2_with fail
              refine hcall.mono ?_
              rintro x w8 ⟨rfl, rfl⟩
              clear hcall
              by_cases z4 : er4 = 0
              · have zz4 : ((er4 : Int) != 0) = false := by simp [z4]
                have Z4 := Lib.hid z4
                clear z4
                have g1 := sget_ge s q3 2 q3le
                have g2 := sget_ge s q2 10 q2le
                have g3 := sget_ge s q1 10 q1le
                have g4 := wrd_ge s (p + 22) hpi
                have gq : p + 16 ≤ q4 := by
                  have e1 : (wrd s (p + 22)).2.2 = q1 := (congrArg (fun x => x.2.2) H1.out).symm
                  have e2 : (sget s q1 10).2.2 = q2 := by have := (congrArg (fun x => x.2.2) H2.out).symm; unfold fh2 at this; rw [← H1.out] at this; exact this
                  have e3 : (sget s q2 10).2.2 = q3 := by have := (congrArg (fun x => x.2.2) H3.out).symm; unfold fh3 at this; rw [← H2.out] at this; exact this
                  have e4 : (sget s q3 2).2.2 = q4 := by have := (congrArg (fun x => x.2.2) H4.out).symm; unfold fh4 at this; rw [← H3.out] at this; exact this
                  omega
                clear g1 g2 g3 g4
                have HX : Hid (fhE s p = if v4 < 1 ∨ 120 < v4 then 4 else smE s q4 (fhB s p)) := Lib.hid (by rw [HE1.out, if_neg (by rw [← H1.out]; exact not_not_intro Z1.out), if_neg (by rw [← H2.out]; exact not_not_intro Z2.out), if_neg (by rw [← H3.out]; exact not_not_intro Z3.out), if_neg (by rw [← H4.out]; exact not_not_intro Z4.out), ← H4.out])
                by_cases zb : v4 < 1 ∨ 120 < v4
                · have HR := Lib.hid (show frR s (p : Int) = (4, 0, [], 0) by
                    have e1 : fhE s p = 4 := by rw [HX.out, if_pos zb]
                    rw [HRf.out]; unfold fRd; rw [e1]; rfl)
                  rcases zb with zb | zb
                  · have b1 : (v4 : Int) < 1 := by omega
                    obtain ⟨y0, y1⟩ := st3.cells
                    have yf0 := frozen_blk st3.fb 0
                    have yf1 := frozen_blk st3.fb 1
                    go_wp2_with fail
                    exact bodyPost_ret (v := .tuple #[.agg #[.int .u32 0, .slice none 0 0], .int .i64 0, .int .i64 4]) (by simp [results, Try.results68, go_sem, y0, y1]) rfl (q_err st3 HR.out)
                  · have b1 : ¬ (v4 : Int) < 1 := by omega
                    have b2 : (120 : Int) < v4 := by omega
                    obtain ⟨y0, y1⟩ := st3.cells
                    have yf0 := frozen_blk st3.fb 0
                    have yf1 := frozen_blk st3.fb 1
                    go_wp2_with fail
                    exact bodyPost_ret (v := .tuple #[.agg #[.int .u32 0, .slice none 0 0], .int .i64 0, .int .i64 4]) (by simp [results, Try.results68, go_sem, y0, y1]) rfl (q_err st3 HR.out)
                · have b1 : ¬ (v4 : Int) < 1 := by omega
                  have b2 : ¬ (120 : Int) < v4 := by omega
                  have hv4 : v4 ≤ 120 := by omega
                  have hv1 : 1 ≤ v4 := by omega
                  have hB4 : fhB s p = (s.extract (p + 16) q4).data.toList := by unfold fhB; rw [← H4.out]
                  have hX3 : fhE s p = smE s q4 (s.extract (p + 16) q4).data.toList := by rw [HX.out, if_neg zb, hB4]
                  have hQ4 : (wrd s q4).2.2 = fhQ s p := by unfold fhQ; rw [← H4.out]
                  have hq5 := wrd_next s q4 q4le
                  have hxs : (s.extract (p + 16) q4).size ≤ 140737488355328 := by rw [ByteArray.size_extract]; omega
                  have hsm := fun x => rsm_any q4le hs' (s.extract (p + 16) q4) hxs x
                  generalize smE s q4 (s.extract (p + 16) q4).data.toList = e5 at hX3 hsm
                  generalize (wrd s q4).2.2 = q5 at hQ4 hq5 hsm
                  have HX3 := Lib.hid hX3
                  have HQ5 := Lib.hid hQ4
                  clear HX zb hB4 hX3 hQ4 hxs
                  have gqi : (p : Int) + 16 ≤ q4 := by omega
                  have gqs : (q4 : Int) ≤ s.size := by omega
                  have gq0 : (0 : Int) ≤ (p : Int) + 16 := by omega
                  have gqn : ((p : Int) + 16).toNat = p + 16 := by omega
                  have gq4 : (0 : Int) ≤ (q4 : Int) := by omega
                  go_wp2_with fail
                  refine (hsm _).mono ?_
                  rintro x w10 ⟨rfl, hn10⟩
                  have st4 := st3.drew hn10
                  clear hsm hn10 st3
                  by_cases z5 : e5 = 0
                  · have zz5 : ((e5 : Int) != 0) = false := by simp [z5]
                    have Z := Lib.hid (HX3.out.trans z5)
                    clear z5
                    have hv4n : (fh4 s p).1 = v4 := by rw [← H4.out]
                    have HV := Lib.hid hv4n
                    clear hv4n
                    by_cases t0 : s.size - q5 < v4
                    · have HR := Lib.hid (show frR s (p : Int) = (2, 0, [], 0) by rw [HRf.out]; unfold fRd; rw [if_neg (not_not_intro Z.out), ← HQ5.out, HV.out, if_pos t0])
                      have t0' : (s.size : Int) - q5 < v4 := by omega
                      clear t0
                      obtain ⟨y0, y1⟩ := st4.cells
                      have yf0 := frozen_blk st4.fb 0
                      have yf1 := frozen_blk st4.fb 1
                      go_wp2_with fail
                      exact bodyPost_ret (v := .tuple #[.agg #[.int .u32 0, .slice none 0 0], .int .i64 0, .int .i64 2]) (by simp [results, Try.results68, go_sem, y0, y1]) rfl (q_err st4 HR.out)
                    · have HT0 := Lib.hid t0
                      have t0' : ¬ (s.size : Int) - q5 < v4 := by omega
                      have hqd : q5 + v4 ≤ s.size := by omega
                      have hPs : (s.extract q5 (q5 + v4)).size = v4 := by rw [ByteArray.size_extract]; omega
                      have HPe := Lib.hid (show fhP s p = s.extract q5 (q5 + v4) by unfold fhP; rw [← HQ5.out, HV.out])
                      have hsm := fun x => rsm_any hqd hs' (s.extract q5 (q5 + v4)) (by rw [hPs]; omega) x
                      have HWN := Lib.hid (show (wrd s (q5 + v4)).2.2 = (wrd s (fhQ s p + (fh4 s p).1)).2.2 by rw [← HQ5.out, HV.out])
                      have HSM := Lib.hid (show smE s (fhQ s p + (fh4 s p).1) (fhP s p).data.toList = smE s (q5 + v4) (s.extract q5 (q5 + v4)).data.toList by rw [HPe.out, ← HQ5.out, HV.out])
                      generalize smE s (q5 + v4) (s.extract q5 (q5 + v4)).data.toList = e6 at hsm HSM
                      generalize (wrd s (q5 + v4)).2.2 = q6 at hsm HWN
                      have hv2n : (fh2 s p).1 = v2 := by rw [← H2.out]
                      have hv3n : (fh3 s p).1 = v3 := by rw [← H3.out]
                      have hv1n : (fh1 s p).1 = v1 := by rw [← H1.out]
                      have hcl : v2 < 18446744073709551616 := by have := sget_lt s (fh1 s p).2.2 10; unfold U64 at this; rw [← hv2n]; exact this
                      have hcl2 : v3 < 18446744073709551616 := by have := sget_lt s (fh2 s p).2.2 10; unfold U64 at this; rw [← hv3n]; exact this
                      have hPsz : (s.extract q5 (q5 + v4)).size ≤ 1000000000 := by rw [hPs]; omega
                      have hrd := fun x => rread_any (s.extract q5 (q5 + v4)) v2 v3 hcl hcl2 hPsz x
                      have HLP := Lib.hid (show rdL (fhP s p) (fhP s p).size (fh2 s p).1 (fh3 s p).1 0 = rdL (s.extract q5 (q5 + v4)) (s.extract q5 (q5 + v4)).size v2 v3 0 by rw [HPe.out, hv2n, hv3n])
                      have HVN := Lib.hid (And.intro hv1n (And.intro hv2n hv3n))
                      have hne := rd_ne (P := s.extract q5 (q5 + v4)) (cy := v2) (ct := v3) (by rw [hPs]; omega)
                      have hrs : (rdL (s.extract q5 (q5 + v4)) (s.extract q5 (q5 + v4)).size v2 v3 0).2 = 0 → rdS (s.extract q5 (q5 + v4)) v2 v3 = (rdL (s.extract q5 (q5 + v4)) (s.extract q5 (q5 + v4)).size v2 v3 0).1 := fun h => by unfold rdS; rw [if_pos h]
                      generalize rdS (s.extract q5 (q5 + v4)) v2 v3 = ls at hrd hrs
                      generalize rdL (s.extract q5 (q5 + v4)) (s.extract q5 (q5 + v4)).size v2 v3 0 = L at hrd hrs hne HLP
                      obtain ⟨l, er⟩ := L
                      simp only at hrd hrs hne
                      clear hPsz hPs HPe hv2n hv3n hv1n t0
                      have gs0 : (0 : Int) ≤ (q5 : Int) := by omega
                      have gs1 : (q5 : Int) ≤ (q5 : Int) + v4 := by omega
                      have gs2 : (q5 : Int) + v4 ≤ s.size := by omega
                      have gs3 : ((q5 : Int) + v4).toNat = q5 + v4 := by omega
                      go_wp2_with fail
                      refine (hsm _).mono ?_
                      rintro x w11 ⟨rfl, hn11⟩
                      have st5 := st4.drew hn11
                      clear hsm hn11 st4
                      by_cases z6 : e6 = 0
                      · have zz6 : ((e6 : Int) != 0) = false := by simp [z6]
                        have Z6 := Lib.hid z6
                        clear z6
                        go_wp2_with fail
                        refine (hrd _).mono ?_
                        unfold EvsPost
                        rintro x w12 ⟨ao, cap, rfl, hown, hk⟩
                        have st6 := st5.below hk
                        have hb5 := st5.bel.size
                        have hown2 := own_mono hown hb5
                        clear hk st5 hrd hown
                        by_cases z7 : er = 0
                        · have hln := hrs z7
                          have hl0 := hne z7
                          subst hln
                          have Z7 := Lib.hid z7
                          have zz7 : (er != 0) = false := by simp [z7]
                          have zz8 : (er == 0) = true := eqb_t z7
                          clear hrs hne z7
                          obtain ⟨g, off, rfl, k1, k2⟩ := own_cell hown2 hl0
                          have hl0' : (0 : Int) < ls.length := by omega
                          have HS0 := Lib.hid (show fRd s p = if (ls.getD 0 default).cy ≠ v2 ∨ (ls.getD 0 default).ct ≠ v3 then (3, 0, [], 0) else (0, v1, ls, q6) by
                            unfold fRd
                            rw [if_neg (not_not_intro Z.out), ← HQ5.out, HV.out, if_neg HT0.out, HQ5.out, ← HV.out, HSM.out, if_neg (not_not_intro Z6.out), HLP.out, if_neg (not_not_intro Z7.out), HVN.out.1, HVN.out.2.1, HVN.out.2.2, ← HWN.out])
                          by_cases t1 : (ls.getD 0 default).cy = v2
                          · by_cases t2 : (ls.getD 0 default).ct = v3
                            · rw [t1] at k1
                              rw [t2] at k2
                              have w1' : ((v2 : Int) != v2) = false := by simp
                              have w2' : ((v3 : Int) != v3) = false := by simp
                              have HR := Lib.hid (show frR s (p : Int) = (0, v1, ls, q6) by rw [HRf.out, HS0.out, if_neg (by rw [t1, t2]; simp)])
                              clear t1 t2 HS0
                              obtain ⟨y0, y1⟩ := st6.cells
                              have yf0 := frozen_blk st6.fb 0
                              have yf1 := frozen_blk st6.fb 1
                              go_wp2_with fail
                              exact bodyPost_ret (v := .tuple #[.agg #[.int .u32 v1, .slice (some ⟨g, off, none⟩) ls.length cap], .int .i64 q6, .int .i64 0]) (by simp [results, Try.results68, go_sem, y0, y1]) rfl (q_ok st6 hown2 HR.out)
                            · have w1' : (((ls.getD 0 default).cy : Int) != v2) = false := by rw [t1]; simp
                              have w2' : (((ls.getD 0 default).ct : Int) != v3) = true := bne_iff_ne.2 (by omega)
                              have HR := Lib.hid (show frR s (p : Int) = (3, 0, [], 0) by rw [HRf.out, HS0.out, if_pos (.inr t2)])
                              generalize (ls.getD 0 default).cy = m1 at k1 w1'
                              generalize (ls.getD 0 default).ct = m2 at k2 w2'
                              clear t1 t2 HS0
                              obtain ⟨y0, y1⟩ := st6.cells
                              have yf0 := frozen_blk st6.fb 0
                              have yf1 := frozen_blk st6.fb 1
                              go_wp2_with fail
                              exact bodyPost_ret (v := .tuple #[.agg #[.int .u32 0, .slice none 0 0], .int .i64 0, .int .i64 3]) (by simp [results, Try.results68, go_sem, y0, y1]) rfl (q_err st6 HR.out)
                          · have w1' : (((ls.getD 0 default).cy : Int) != v2) = true := bne_iff_ne.2 (by omega)
                            have HR := Lib.hid (show frR s (p : Int) = (3, 0, [], 0) by rw [HRf.out, HS0.out, if_pos (.inl t1)])
                            generalize (ls.getD 0 default).cy = m1 at k1 w1'
                            clear t1 HS0
                            obtain ⟨y0, y1⟩ := st6.cells
                            have yf0 := frozen_blk st6.fb 0
                            have yf1 := frozen_blk st6.fb 1
                            go_wp2_with fail
                            exact bodyPost_ret (v := .tuple #[.agg #[.int .u32 0, .slice none 0 0], .int .i64 0, .int .i64 3]) (by simp [results, Try.results68, go_sem, y0, y1]) rfl (q_err st6 HR.out)
                        · have zz7 : (er != 0) = true := by simp [z7]
                          have zz8 : (er == 0) = false := eqb_f z7
                          have HR := Lib.hid (show frR s (p : Int) = (er, 0, [], 0) by rw [HRf.out]; unfold fRd; rw [if_neg (not_not_intro Z.out), ← HQ5.out, HV.out, if_neg HT0.out, HQ5.out, ← HV.out, HSM.out, if_neg (not_not_intro Z6.out), HLP.out, if_pos z7])
                          clear hrs hne z7 hown2
                          obtain ⟨y0, y1⟩ := st6.cells
                          have yf0 := frozen_blk st6.fb 0
                          have yf1 := frozen_blk st6.fb 1
                          go_wp2_with fail
                          exact bodyPost_ret (v := .tuple #[.agg #[.int .u32 0, .slice none 0 0], .int .i64 0, .int .i64 er]) (by simp [results, Try.results68, go_sem, y0, y1]) rfl (q_err st6 HR.out)
                      · have zz6 : ((e6 : Int) != 0) = true := by simp [z6]
                        have HR := Lib.hid (show frR s (p : Int) = ((e6 : Int), 0, [], 0) by rw [HRf.out]; unfold fRd; rw [if_neg (not_not_intro Z.out), ← HQ5.out, HV.out, if_neg HT0.out, HQ5.out, ← HV.out, HSM.out, if_pos z6])
                        clear hrs hne z6 hrd
                        obtain ⟨y0, y1⟩ := st5.cells
                        have yf0 := frozen_blk st5.fb 0
                        have yf1 := frozen_blk st5.fb 1
                        go_wp2_with fail
                        exact bodyPost_ret (v := .tuple #[.agg #[.int .u32 0, .slice none 0 0], .int .i64 0, .int .i64 e6]) (by simp [results, Try.results68, go_sem, y0, y1]) rfl (q_err st5 HR.out)
                  · have zz5 : ((e5 : Int) != 0) = true := by simp [z5]
                    have HR := Lib.hid (show frR s (p : Int) = ((e5 : Int), 0, [], 0) by rw [HRf.out]; unfold fRd; rw [if_pos (by rw [HX3.out]; exact z5), HX3.out])
                    clear z5
                    obtain ⟨y0, y1⟩ := st4.cells
                    have yf0 := frozen_blk st4.fb 0
                    have yf1 := frozen_blk st4.fb 1
                    go_wp2_with fail
                    exact bodyPost_ret (v := .tuple #[.agg #[.int .u32 0, .slice none 0 0], .int .i64 0, .int .i64 e5]) (by simp [results, Try.results68, go_sem, y0, y1]) rfl (q_err st4 HR.out)
              · have zz : ((er4 : Int) != 0) = true := by simp [z4]
                have HR := Lib.hid (show frR s (p : Int) = ((er4 : Int), 0, [], 0) by
                  have e1 : fhE s p = er4 := by rw [HE1.out, if_neg (by rw [← H1.out]; exact not_not_intro Z1.out), if_neg (by rw [← H2.out]; exact not_not_intro Z2.out), if_neg (by rw [← H3.out]; exact not_not_intro Z3.out), if_pos (by rw [← H4.out]; exact z4), ← H4.out]
                  rw [HRf.out]; unfold fRd; rw [if_pos (by rw [e1]; exact z4), e1])
                clear z4
                obtain ⟨y0, y1⟩ := st3.cells
                have yf0 := frozen_blk st3.fb 0
                have yf1 := frozen_blk st3.fb 1
                go_wp2_with fail
                exact bodyPost_ret (v := .tuple #[.agg #[.int .u32 0, .slice none 0 0], .int .i64 0, .int .i64 er4]) (by simp [results, Try.results68, go_sem, y0, y1]) rfl (q_err st3 HR.out)
            · have zz : ((er3 : Int) != 0) = true := by simp [z3]
              have HR := Lib.hid (show frR s (p : Int) = ((er3 : Int), 0, [], 0) by
                have e1 : fhE s p = er3 := by rw [HE1.out, if_neg (by rw [← H1.out]; exact not_not_intro Z1.out), if_neg (by rw [← H2.out]; exact not_not_intro Z2.out), if_pos (by rw [← H3.out]; exact z3), ← H3.out]
                rw [HRf.out]; unfold fRd; rw [if_pos (by rw [e1]; exact z3), e1])
              clear z3
              obtain ⟨y0, y1⟩ := st3.cells
              have yf0 := frozen_blk st3.fb 0
              have yf1 := frozen_blk st3.fb 1
              go_wp2_with fail
              exact bodyPost_ret (v := .tuple #[.agg #[.int .u32 0, .slice none 0 0], .int .i64 0, .int .i64 er3]) (by simp [results, Try.results68, go_sem, y0, y1]) rfl (q_err st3 HR.out)
          · have zz : ((er2 : Int) != 0) = true := by simp [z2]
            have HR := Lib.hid (show frR s (p : Int) = ((er2 : Int), 0, [], 0) by
              have e1 : fhE s p = er2 := by rw [HE1.out, if_neg (by rw [← H1.out]; exact not_not_intro Z1.out), if_pos (by rw [← H2.out]; exact z2), ← H2.out]
              rw [HRf.out]; unfold fRd; rw [if_pos (by rw [e1]; exact z2), e1])
            clear z2
            obtain ⟨y0, y1⟩ := st3.cells
            have yf0 := frozen_blk st3.fb 0
            have yf1 := frozen_blk st3.fb 1
            go_wp2_with fail
            exact bodyPost_ret (v := .tuple #[.agg #[.int .u32 0, .slice none 0 0], .int .i64 0, .int .i64 er2]) (by simp [results, Try.results68, go_sem, y0, y1]) rfl (q_err st3 HR.out)
        · have zz : ((er1 : Int) != 0) = true := by simp [z1]
          have HR := Lib.hid (show frR s (p : Int) = ((er1 : Int), 0, [], 0) by
            have e1 : fhE s p = er1 := by rw [HE1.out, if_pos (by rw [← H1.out]; exact z1), ← H1.out]
            rw [HRf.out]; unfold fRd; rw [if_pos (by rw [e1]; exact z1), e1])
          clear z1
          obtain ⟨y0, y1⟩ := st3.cells
          have yf0 := frozen_blk st3.fb 0
          have yf1 := frozen_blk st3.fb 1
          go_wp2_with fail
          exact bodyPost_ret (v := .tuple #[.agg #[.int .u32 0, .slice none 0 0], .int .i64 0, .int .i64 er1]) (by simp [results, Try.results68, go_sem, y0, y1]) rfl (q_err st3 HR.out)
end Go.Proofs.Ytbfipgeoecbpaaa
/- awake of layer 7, and ref07.Same. No condition but those that each names. -/
namespace Go.Proofs.Ytbfipgeoecbpaaa
open Go.RowKit
set_option maxRecDepth 100000
def eA : Ev := ⟨22, 9, 5, 3, 0, 0⟩
theorem fa_1 : frE (fun _ => eA) 1 = 0 := by decide +kernel
theorem fa_2 : (frS 7 (fun _ => eA) 1).length = 63 := by decide +kernel
theorem fa_3 : frR ⟨([120] ++ frS 7 (fun _ => eA) 1 ++ [121]).toArray⟩ 1 = (0, 7, [eA], 64) := by decide +kernel
theorem fa_4 : frR ⟨((frS 7 (fun _ => eA) 1).take 60).toArray⟩ 0 = (2, 0, [], 0) := by decide +kernel
theorem eA_wf : eA.Wf := ⟨by decide, by decide, by decide, by decide, by decide, by decide, by decide⟩
theorem f_at' (e : Ev) {j : Nat} (hj : j < 6) : e.cells[j]? = some (e.f j) := by
  match j, hj with
  | 0, _ => rfl
  | 1, _ => rfl
  | 2, _ => rfl
  | 3, _ => rfl
  | 4, _ => rfl
  | 5, _ => rfl
theorem slN_one' (w : World) (a : Ev) : SlArgN (w.alloc (.cells a.cells.toArray 25)) (some ⟨w.heap.size, 0, none⟩) 1 1 6 (fun i j => ((fun _ => a) i).f j) := by
  refine ⟨Nat.le_refl _, by decide, fun i hi => ⟨_, 0, rfl, by simp, fun j hj => ?_⟩⟩
  rw [cell_blk (heap_alloc_new w _)]
  obtain rfl : i = 0 := by omega
  rw [← f_at' a hj]
  simp
end Go.Proofs.Ytbfipgeoecbpaaa
/- A frame that came in by value; law07.own. No condition but those that each names. -/
namespace Go.Proofs.Ytbfipgeoecbpaaa
open Go.WideShapes Go.Deep Go.RowKit
set_option maxRecDepth 20000
/-- A frame as an argument. -/
structure FrV where
  seq : Nat
  oa : Option Addr
  len : Nat
  cap : Nat
  z : Nat → Ev
def FrV.val (f : FrV) : Value := .agg #[.int .u32 f.seq, .slice f.oa f.len f.cap]
structure FrV.Ok (W : World) (f : FrV) : Prop where
  seq : f.seq < 4294967296
  sl : SlArgN W f.oa f.len f.cap 6 (fun i j => (f.z i).f j)
  wf : ∀ i, i < f.len → (f.z i).Wf
  nil : f.oa = none → f.cap = 0
theorem FrV.Ok.kept {W w' : World} {f : FrV} (h : f.Ok W) (k : Below W.heap.size W w') : f.Ok w' := { h with sl := h.sl.kept k }
theorem ev_of {H : Type} {enc : TypeId × Value → H} {W : World} {base n : Nat} {held : Bool} {cs : List Value} {x : DataW H × List MemPlace} (hl : cs.length = 6)
    (hn : DataW.trod enc Try.prog W base (fun _ => true) held n 25 cs = some x) : ∃ e : Ev, cs = e.cells ∧ e.Wf := by
  match cs, hl with
  | [c0, c1, c2, c3, c4, c5], _ =>
    obtain ⟨ys, n', _, _, _, hyl, hf⟩ := DataW.trod_struct Try.underlying25 hn
    have hyl : ys.length = 6 := hyl
    have k1 : Try.prog.cellsOf 3 = 1 := by kernel_rfl
    have k2 : Try.prog.cellsOf 22 = 1 := by kernel_rfl
    have k3 : Try.prog.cellsOf 23 = 1 := by kernel_rfl
    have h0 : DataW.trod enc Try.prog W base (fun _ => true) held n' 3 (List.take (Try.prog.cellsOf 3) [c0, c1, c2, c3, c4, c5]) = ys[0]? := hf 0 _ rfl
    have h1 : DataW.trod enc Try.prog W base (fun _ => true) held n' 22 (List.take (Try.prog.cellsOf 22) [c1, c2, c3, c4, c5]) = ys[1]? := hf 1 _ rfl
    have h2 : DataW.trod enc Try.prog W base (fun _ => true) held n' 22 (List.take (Try.prog.cellsOf 22) [c2, c3, c4, c5]) = ys[2]? := hf 2 _ rfl
    have h3 : DataW.trod enc Try.prog W base (fun _ => true) held n' 23 (List.take (Try.prog.cellsOf 23) [c3, c4, c5]) = ys[3]? := hf 3 _ rfl
    have h4 : DataW.trod enc Try.prog W base (fun _ => true) held n' 23 (List.take (Try.prog.cellsOf 23) [c4, c5]) = ys[4]? := hf 4 _ rfl
    have h5 : DataW.trod enc Try.prog W base (fun _ => true) held n' 23 (List.take (Try.prog.cellsOf 23) [c5]) = ys[5]? := hf 5 _ rfl
    rw [k1, List.getElem?_eq_getElem (by omega)] at h0
    rw [k2, List.getElem?_eq_getElem (by omega)] at h1 h2
    rw [k3, List.getElem?_eq_getElem (by omega)] at h3 h4 h5
    obtain ⟨z0, e0, _, w0⟩ := DataW.trod_int Try.underlying3 h0
    obtain ⟨z1, e1, _, w1⟩ := DataW.trod_int Try.underlying22 h1
    obtain ⟨z2, e2, _, w2⟩ := DataW.trod_int Try.underlying22 h2
    obtain ⟨z3, e3, _, w3⟩ := DataW.trod_int Try.underlying23 h3
    obtain ⟨z4, e4, _, w4⟩ := DataW.trod_int Try.underlying23 h4
    obtain ⟨z5, e5, _, w5⟩ := DataW.trod_int Try.underlying23 h5
    simp at e0 e1 e2 e3 e4 e5
    obtain ⟨r0, r1⟩ := i64_of w0
    obtain ⟨m1, rfl, u1⟩ := u64_of w1
    obtain ⟨m2, rfl, u2⟩ := u64_of w2
    obtain ⟨m3, rfl, u3⟩ := u32_of w3
    obtain ⟨m4, rfl, u4⟩ := u32_of w4
    obtain ⟨m5, rfl, u5⟩ := u32_of w5
    subst e0 e1 e2 e3 e4 e5
    exact ⟨⟨z0, m1, m2, m3, m4, m5⟩, rfl, r0, r1, u1, u2, u3, u4, u5⟩
theorem evs_of {H : Type} {enc : TypeId × Value → H} {W : World} {base : Nat} {held : Bool} {v : Value} {d : DataW H} {ps : List MemPlace}
    (hv : ∃ a len cap, v = .slice a len cap) (h : DataW.Trod enc Try.prog W base (fun _ => true) held 40 v d ps) :
    ∃ (oa : Option Addr) (len cap : Nat) (z : Nat → Ev), v = .slice oa len cap ∧ SlArgN W oa len cap 6 (fun i j => (z i).f j) ∧ (∀ i, i < len → (z i).Wf) ∧ (oa = none → cap = 0) := by
  obtain ⟨oa, len, cap, L, rfl, hs, hd, hx⟩ := slArgN_any (c := 6) Try.underlying40 (by kernel_rfl) (by decide) hv h
  have hnone : oa = none → cap = 0 := by
    obtain ⟨fuel, hf⟩ := h
    rcases open_slice Try.underlying40 hf with ⟨hcs, _⟩ | ⟨x, l, cp, m, n, D, Pl, hcs, _, hl, hm, hmm, hxx, hx⟩
    · simp [Value.cells] at hcs
      exact fun _ => hcs.2.2
    · simp [Value.cells] at hcs
      intro h0
      rw [h0] at hcs
      cases hcs.1
  have key : ∀ i, i < len → ∃ o : Ev, (∀ j, j < 6 → (L i).getD j (.bool false) = o.f j) ∧ o.Wf := by
    intro i hi
    obtain ⟨hl, n, x, hn⟩ := hx i hi
    obtain ⟨e, he, hw⟩ := ev_of hl hn
    refine ⟨e, fun j hj => ?_, hw⟩
    rw [he]
    match j, hj with
    | 0, _ => rfl
    | 1, _ => rfl
    | 2, _ => rfl
    | 3, _ => rfl
    | 4, _ => rfl
    | 5, _ => rfl
  obtain ⟨z, hz⟩ := Go.Deep.choose_lt (α := Ev) (p := fun i o => (∀ j, j < 6 → (L i).getD j (.bool false) = o.f j) ∧ o.Wf) key
  exact ⟨oa, len, cap, z, rfl, hs.congr fun i hi => (hz i hi).1, fun i hi => (hz i hi).2, hnone⟩
theorem arg_struct110 {H : Type} {enc : TypeId × Value → H} {W : World} {base : Nat} {held : Bool} {v : Value} {d : DataW H} {ps : List MemPlace}
    (hv : ∃ cs, v = .agg cs ∧ cs.size = Try.prog.cellsOf 110) (h : DataW.Trod enc Try.prog W base (fun _ => true) held 110 v d ps) : ∃ f : FrV, v = f.val ∧ f.Ok W := by
  obtain ⟨cs, rfl, hsz⟩ := hv
  obtain ⟨fuel, hf⟩ := h
  have h2 : Try.prog.cellsOf 110 = 2 := by kernel_rfl
  rw [h2] at hsz
  obtain ⟨l⟩ := cs
  match l, hsz with
  | [c0, c1], _ =>
    obtain ⟨ys, n', _, _, _, hyl, hfl⟩ := DataW.trod_struct Try.underlying110 hf
    have hyl : ys.length = 2 := hyl
    have k1 : Try.prog.cellsOf 23 = 1 := by kernel_rfl
    have k2 : Try.prog.cellsOf 40 = 1 := by kernel_rfl
    have g0 : DataW.trod enc Try.prog W base (fun _ => true) held n' 23 (List.take (Try.prog.cellsOf 23) [c0, c1]) = ys[0]? := hfl 0 _ rfl
    have g1 : DataW.trod enc Try.prog W base (fun _ => true) held n' 40 (List.take (Try.prog.cellsOf 40) [c1]) = ys[1]? := hfl 1 _ rfl
    rw [k1, List.getElem?_eq_getElem (by omega)] at g0
    rw [k2, List.getElem?_eq_getElem (by omega)] at g1
    obtain ⟨z0, e0, _, w0⟩ := DataW.trod_int Try.underlying23 g0
    simp at e0
    obtain ⟨m0, rfl, u0⟩ := u32_of w0
    subst e0
    have hv1 : ∃ a len cap, c1 = .slice a len cap := by
      rcases open_slice Try.underlying40 g1 with ⟨hcs, _⟩ | ⟨x, l, cp, m, n, D, Pl, hcs, _⟩
      · simp at hcs
        exact ⟨_, _, _, hcs⟩
      · simp at hcs
        exact ⟨_, _, _, hcs⟩
    obtain ⟨a, ln, cp, rfl⟩ := hv1
    have g2 : DataW.Trod enc Try.prog W base (fun _ => true) held 40 (.slice a ln cp) (ys[1]'(by omega)).1 (ys[1]'(by omega)).2 := ⟨n', g1⟩
    obtain ⟨oa, len, cap, z, h9, hs, hw, hnn⟩ := evs_of ⟨_, _, _, rfl⟩ g2
    simp only [Value.slice.injEq] at h9
    obtain ⟨rfl, rfl, rfl⟩ := h9
    exact ⟨⟨m0, a, ln, cp, z⟩, rfl, u0, hs, hw, hnn⟩
theorem evs_src {W w1 : World} {oa : Option Addr} {len cap : Nat} {z : Nat → Ev} (h : SlArgN W oa len cap 6 (fun i j => (z i).f j)) (hk : Below W.heap.size W w1) (hv : oa = none → cap = 0) : Src w1 (.slice oa len cap) len (evCells ((List.range len).map z)) := by
  cases oa with
  | none =>
    have h0 : len = 0 := by
      rcases Nat.eq_zero_or_pos len with h0 | h0
      · exact h0
      · obtain ⟨b, off, h1, _⟩ := h.2.2 0 h0
        cases h1
    subst h0
    obtain rfl := hv rfl
    exact .inl ⟨rfl, rfl, rfl⟩
  | some a =>
    refine .inr ⟨a, cap, rfl, fun j u hj => ?_⟩
    have hlen : (evCells ((List.range len).map z)).length = len * 6 := by rw [evCells_length]; simp
    have hj2 : j < len * 6 := by
      rw [← hlen]
      exact (List.getElem?_eq_some_iff.1 hj).1
    have hi : j / 6 < len := by omega
    have hm : j % 6 < 6 := Nat.mod_lt _ (by decide)
    obtain ⟨b, off, h1, h2, h3⟩ := h.below hk (Nat.le_refl _) hi
    obtain rfl : a = ⟨b, off, none⟩ := by simpa using h1
    have h4 := h3 (j % 6) hm
    have h5 := evCells_at ((List.range len).map z) (j / 6) (j % 6) (by simpa using hi) hm
    rw [show j / 6 * 6 + j % 6 = j from by omega, hj] at h5
    have h6 : ((List.range len).map z).getD (j / 6) default = z (j / 6) := by simp [List.getElem?_map, List.getElem?_range hi]
    rw [h6] at h5
    rw [Go.WideShapes.add_plain, show off + j = off + j / 6 * 6 + j % 6 from by omega, h4, ← h5]
theorem evs_own {w : World} {base cap n : Nat} {ao : Option Addr} {len : Nat} {z : Nat → Ev} (h : w.ownsRow base 25 6 (.slice ao n cap) n (evCells ((List.range len).map z))) (hn : n = len) : SlArgN w ao n cap 6 (fun i j => (z i).f j) := by
  subst hn
  have hl : ((List.range n).map z).length = n := by simp
  have h' : w.ownsRow base 25 6 (.slice ao ((List.range n).map z).length cap) ((List.range n).map z).length (evCells ((List.range n).map z)) := by rw [hl]; exact h
  have := slArgN_own h'
  rw [hl] at this
  refine this.congr fun i hi j _ => ?_
  simp [List.getElem?_map, List.getElem?_range hi]
end Go.Proofs.Ytbfipgeoecbpaaa
/- Contract of ref07.Print. No condition but those that it names. -/
namespace Go.Proofs.Ytbfipgeoecbpaaa
open Go.RowKit
set_option maxRecDepth 20000
theorem five_any (n : Nat) (hn : n < 4294967296) (w : World) : Calls Try.prog 88 #[.int .u32 n] w fun x w' => x = .returned (.string ⟨(sep 5 n).toArray⟩) ∧ Below w.heap.size w w' := by
  have hr := r4print_any n (by unfold U64; omega) 5 (by decide) w
  go_enter Try.func88, Try.ntmps88
  go_wp2_with fail
  refine hr.mono ?_
  rintro x w1 ⟨rfl, hk⟩
  go_wp2_with fail
  go_ret
  exact ⟨rfl, hk⟩
theorem ten_any (n : Nat) (hn : n < 18446744073709551616) (w : World) : Calls Try.prog 89 #[.int .u64 n] w fun x w' => x = .returned (.string ⟨(sep 10 n).toArray⟩) ∧ Below w.heap.size w w' := by
  have hr := r4print_any n (by unfold U64; omega) 10 (by decide) w
  go_enter Try.func89, Try.ntmps89
  go_wp2_with fail
  refine hr.mono ?_
  rintro x w1 ⟨rfl, hk⟩
  go_wp2_with fail
  go_ret
  exact ⟨rfl, hk⟩
theorem sep_size (c n : Nat) : (⟨(sep c n).toArray⟩ : ByteArray).size = c := by show (List.toArray _).size = _; simp [sep_len]
theorem fourN {n : Nat} {W W' : World} {F g off : Nat} {a b c d : Value} (hk : Below n W W') (h1 : F < n) (h2 : g < n)
    (H : W.cell? ⟨F, 0, none⟩ = some a ∧ W.cell? ⟨F, 1, none⟩ = some b ∧ W.cell? ⟨g, off + 1, none⟩ = some c ∧ W.cell? ⟨g, off + 2, none⟩ = some d) :
    W'.cell? ⟨F, 0, none⟩ = some a ∧ W'.cell? ⟨F, 1, none⟩ = some b ∧ W'.cell? ⟨g, off + 1, none⟩ = some c ∧ W'.cell? ⟨g, off + 2, none⟩ = some d :=
  ⟨(hk.cell (p := ⟨F, 0, none⟩) h1).trans H.1, (hk.cell (p := ⟨F, 1, none⟩) h1).trans H.2.1, (hk.cell (p := ⟨g, off + 1, none⟩) h2).trans H.2.2.1, (hk.cell (p := ⟨g, off + 2, none⟩) h2).trans H.2.2.2⟩
set_option maxHeartbeats 8000000 in
theorem rfprint_any (w : World) (seq : Nat) (hseq : seq < 4294967296) (oa : Option Addr) (len cap : Nat) (z : Nat → Ev) (hsl : SlArgN w oa len cap 6 (fun i j => (z i).f j)) (hz : ∀ i, i < len → (z i).Wf) (hlen : len ≤ 100000) :
    Calls Try.prog 63 #[.agg #[.int .u32 seq, .slice oa len cap]] w fun x w' => x = .returned (.tuple #[.string ⟨(frS seq z len).toArray⟩, .int .i64 (frE z len)]) ∧ Below w.heap.size w w' := by
  have hB0 := (Below.refl w.heap.size w).alloc (Nat.le_refl _) (.cells #[.int .u32 seq, .slice oa len cap] 110)
  have hF0 := heap_alloc_new w (.cells #[.int .u32 seq, .slice oa len cap] 110)
  have hs0 := hsl.kept ((Below.refl w.heap.size w).alloc (Nat.le_refl _) (.cells #[.int .u32 seq, .slice oa len cap] 110))
  have HZ := Lib.hid hz
  have hc0 : (w.alloc (.cells #[.int .u32 seq, .slice oa len cap] 110)).cell? ⟨w.heap.size, 1, none⟩ = some (.slice oa len cap) := by rw [cell_blk hF0]; rfl
  by_cases h0 : len = 0
  · subst h0
    have hE : frE z 0 = 8 := rfl
    have hS : frS seq z 0 = [] := rfl
    have HR := Lib.hid (And.intro hE hS)
    clear hsl hs0 hz hE hS
    go_enter Try.func63, Try.ntmps63
    go_wp2_with fail
    go_ret2
    exact ⟨by rw [HR.out.1, HR.out.2]; rfl, hB0⟩
  · have hl0 : ((len : Int) == 0) = false := eqb_f (by omega)
    have hl1 : 0 < len := by omega
    have hl1' : (0 : Int) < len := by omega
    have hE1 : prnE z len ≠ 0 → frE z len = prnE z len ∧ frS seq z len = [] := fun h => by
      have : frE z len = prnE z len := by unfold frE; rw [if_neg h0, if_pos h]
      exact ⟨this, by unfold frS; rw [this, if_neg h]⟩
    have hE2 : prnE z len = 0 → 120 < (prnC z len).length → frE z len = 4 ∧ frS seq z len = [] := fun h h2 => by
      have : frE z len = 4 := by unfold frE; rw [if_neg h0, if_neg (by omega), if_pos h2]
      exact ⟨this, by unfold frS; rw [this, if_neg (by decide)]⟩
    have hE3 : prnE z len = 0 → ¬ 120 < (prnC z len).length → frE z len = 0 ∧ frS seq z len = frB seq z len := fun h h2 => by
      have : frE z len = 0 := by unfold frE; rw [if_neg h0, if_neg (by omega), if_neg h2]
      exact ⟨this, by unfold frS; rw [this, if_pos rfl]⟩
    have hP : prnE z len = 0 → prnS z len = prnC z len := fun h => by unfold prnS; rw [if_pos h]
    have HE := Lib.hid (And.intro hE1 (And.intro hE2 (And.intro hE3 hP)))
    clear hsl hz hE1 hE2 hE3 hP h0
    go_enter Try.func63, Try.ntmps63
    go_wp2_with fail
    generalize w.alloc (.cells #[.int .u32 seq, .slice oa len cap] 110) = W0 at hB0 hF0 hs0 hc0 ⊢
    obtain ⟨F, hF⟩ : ∃ F, F = w.heap.size := ⟨_, rfl⟩
    rw [← hF] at hF0 hc0 ⊢
    have HF := Lib.hid hF
    clear hF
    refine (rprn_any W0 oa len cap z hs0 HZ.out hlen).mono ?_
    rintro x w1 ⟨rfl, hk⟩
    have hs1 := hs0.kept hk
    have hF1 := (hk.block F (blk_lt hF0)).trans hF0
    have hB1 := hB0.trans (hk.mono hB0.size)
    clear hs0 hF0 hB0 hk hc0
    by_cases q : prnE z len = 0
    · obtain ⟨_, e2, e3, e4⟩ := HE.out
      rw [q, e4 q]
      have HE4 := Lib.hid (And.intro (e2 q) (e3 q))
      clear HE e2 e3 e4 q
      have hpl : (⟨(prnC z len).toArray⟩ : ByteArray).size = (prnC z len).length := by show (List.toArray _).size = _; simp
      by_cases q2 : 120 < (prnC z len).length
      · obtain ⟨r1, r2⟩ := HE4.out.1 q2
        have HR := Lib.hid (And.intro r1 r2)
        have hp1 : (120 : Int) < (⟨(prnC z len).toArray⟩ : ByteArray).size := by omega
        clear HE4 r1 r2 hpl
        go_wp2_with fail
        go_ret2
        exact ⟨by rw [HR.out.1, HR.out.2]; rfl, hB1⟩
      · obtain ⟨r1, r2⟩ := HE4.out.2 q2
        unfold frB at r2
        have hp1 : ¬ (120 : Int) < (⟨(prnC z len).toArray⟩ : ByteArray).size := by omega
        clear HE4
        have hw0 := HZ.out 0 hl1
        have hcyl := hw0.cy
        have hctl := hw0.ct
        have HPL := Lib.hid (show (prnC z len).length ≤ 120 by omega)
        have hcp := crcV_lt (prnC z len)
        obtain ⟨S, hS⟩ : ∃ S : ByteArray, S = ⟨(prnC z len).toArray⟩ := ⟨_, rfl⟩
        have hSL : S.data.toList = prnC z len := by rw [hS]
        rw [← hS] at hp1 hpl ⊢
        clear hS hw0 q2
        generalize prnC z len = P at hSL hpl HPL hcp r2 ⊢
        obtain ⟨g, off, rfl, g1, g2⟩ := first_cells hs1 hl1
        have hgl := World.block_lt_of_cell? w1 _ g1
        generalize (z 0).cy = cy at g1 hcyl r2
        generalize (z 0).ct = ct at g2 hctl r2
        have HR := Lib.hid (And.intro r1 r2)
        clear r1 r2
        have hFl := blk_lt hF1
        have f0 := cell_blk hF1 0
        have f1 := cell_blk hF1 1
        simp only [List.getElem?_toArray, List.getElem?_cons_zero, List.getElem?_cons_succ] at f0 f1
        have hr2 := r4print_any P.length (by have := HPL.out; unfold U64; omega) 2 (by decide) w1
        go_wp2_with fail
        refine hr2.mono ?_
        rintro x w2 ⟨rfl, hk⟩
        have hB2 := hB1.trans (hk.mono hB1.size)
        have e0 := (hk.cell (p := ⟨F, 0, none⟩) hFl).trans f0
        have e1 := (hk.cell (p := ⟨F, 1, none⟩) hFl).trans f1
        have k1 := (hk.cell (p := ⟨g, off + 1, none⟩) hgl).trans g1
        have k2 := (hk.cell (p := ⟨g, off + 2, none⟩) hgl).trans g2
        have hFl2 : F < w2.heap.size := Nat.lt_of_lt_of_le hFl hk.size
        have hgl2 : g < w2.heap.size := Nat.lt_of_lt_of_le hgl hk.size
        clear hr2 hk f0 f1 g1 g2 hF1 hs1 hB1 hFl hgl
        have HK : w2.cell? ⟨F, 0, none⟩ = some (.int .u32 seq) ∧ w2.cell? ⟨F, 1, none⟩ = some (.slice (some ⟨g, off, none⟩) len cap) ∧ w2.cell? ⟨g, off + 1, none⟩ = some (.int .u64 cy) ∧ w2.cell? ⟨g, off + 2, none⟩ = some (.int .u64 ct) := ⟨e0, e1, k1, k2⟩
        have z1 := sep_size 5 seq
        have z2 := sep_size 10 cy
        have z3 := sep_size 10 ct
        have z4 := sep_size 2 P.length
        have hf5 := fun W => five_any seq hseq W
        have ht1 := fun W => ten_any cy hcyl W
        have ht2 := fun W => ten_any ct hctl W
        go_upto_region 9 with fail
        go_cut [8] (fun s8 wx => s8 = .string ⟨(frH seq cy ct P.length).toArray⟩ ∧ Below w.heap.size w wx)
        case first =>
          go_region_held (fun w' => w'.cell? ⟨F, 0, none⟩ = some (.int .u32 seq) ∧ w'.cell? ⟨F, 1, none⟩ = some (.slice (some ⟨g, off, none⟩) len cap) ∧ w'.cell? ⟨g, off + 1, none⟩ = some (.int .u64 cy) ∧ w'.cell? ⟨g, off + 2, none⟩ = some (.int .u64 ct)) (first | exact HK | exact HK2 | exact HK3 | exact HK4) (first | (go_at_call 88; (refine (hf5 _).mono ?_); rintro x w3 ⟨rfl, hk3⟩; have HK2 := fourN hk3 (by first | exact hFl2 | omega) (by first | exact hgl2 | omega) HK; have hF3 := Nat.lt_of_lt_of_le hFl2 hk3.size; have hG3 := Nat.lt_of_lt_of_le hgl2 hk3.size) | (go_at_call_of 89 (Value.int .u64 (cy : Int)); (refine (ht1 _).mono ?_); rintro x w4 ⟨rfl, hk4⟩; have HK3 := fourN hk4 (by first | exact hF3 | omega) (by first | exact hG3 | omega) HK2; have hF4 := Nat.lt_of_lt_of_le hF3 hk4.size; have hG4 := Nat.lt_of_lt_of_le hG3 hk4.size) | (go_at_call_of 89 (Value.int .u64 (ct : Int)); (refine (ht2 _).mono ?_); rintro x w5 ⟨rfl, hk5⟩; have HK4 := fourN hk5 (by first | exact hF4 | omega) (by first | exact hG4 | omega) HK3))
          all_goals (go_wp2_with fail; go_meet; refine ⟨by (rw [show (⟨#[84, 65, 70, 82, 73, 76]⟩ : ByteArray) = ⟨tafril.toArray⟩ from rfl, str_cat, str_cat, str_cat, str_cat]; rfl), hB2.trans ?_⟩)
          all_goals (repeat (first | exact Below.refl _ _ | refine Below.drew ?_ | refine Below.trans ?_ (Below.mono hk5 ?_) | refine Below.trans ?_ (Below.mono hk4 ?_) | refine Below.trans ?_ (Below.mono hk3 ?_)))
          all_goals first | exact hB2.size | exact Nat.le_trans hB2.size hk3.size | exact Nat.le_trans (Nat.le_trans hB2.size hk3.size) hk4.size
        case rest =>
          obtain ⟨rfl, hcut⟩ := hcut
          clear HK z1 z2 z3 z4 hf5 ht1 ht2 e0 e1 k1 k2 hFl2 hgl2 hB2
          have hHl := frH_len seq cy ct P.length
          obtain ⟨H, hH⟩ : ∃ H, H = frH seq cy ct P.length := ⟨_, rfl⟩
          rw [← hH] at hHl HR ⊢
          clear hH
          have hch := crcV_lt H
          obtain ⟨SH, hSH⟩ : ∃ S : ByteArray, S = ⟨H.toArray⟩ := ⟨_, rfl⟩
          have hSHL : SH.data.toList = H := by rw [hSH]
          have hSHz : SH.size = 33 := by rw [hSH]; show H.toArray.size = 33; simp [hHl]
          rw [← hSH]
          have hs1 := fun W => rsum_any SH (by omega) W
          have hs2 := fun W => rsum_any S (by have := HPL.out; omega) W
          rw [hSHL] at hs1
          rw [hSL] at hs2
          have hf1 := fun W => five_any (crcV H) hch W
          have hf2 := fun W => five_any (crcV P) hcp W
          have hmk := fun W => rmk_any W
          have z1 := sep_size 5 (crcV H)
          have z2 := sep_size 5 (crcV P)
          have z3 : (⟨mk.toArray⟩ : ByteArray).size = 22 := rfl
          have HP3 := Lib.hid hSL
          have HP4 := Lib.hid hSH
          clear hSL hSHL hSH
          go_upto_region 10 with fail
          go_cut [2, 3] (fun s e wx => s = .string ⟨(six255 ++ H ++ sep 5 (crcV H) ++ P ++ sep 5 (crcV P)).toArray⟩ ∧ e = .int .i64 0 ∧ Below w.heap.size w wx)
          case first =>
            go_region_held (fun _ => True) (trivial) (first | (go_at_call 90; (refine (hmk _).mono ?_); rintro x w3 ⟨rfl, n3, rfl⟩) | (go_at_call_of 91 (Value.string SH); (refine (hs1 _).mono ?_); rintro x w4 ⟨rfl, n4, rfl⟩) | (go_at_call_of 88 (Value.int .u32 (crcV H : Int)); (refine (hf1 _).mono ?_); rintro x w5 ⟨rfl, hk5⟩) | (go_at_call_of 91 (Value.string S); (refine (hs2 _).mono ?_); rintro x w6 ⟨rfl, n6, rfl⟩) | (go_at_call_of 88 (Value.int .u32 (crcV P : Int)); (refine (hf2 _).mono ?_); rintro x w7 ⟨rfl, hk7⟩))
            all_goals (go_wp2_with fail; go_meet; refine ⟨by (rw [HP4.out, show S = ⟨P.toArray⟩ from by rw [← HP3.out], show (⟨mk.toArray⟩ : ByteArray).extract 0 16 = ⟨six255.toArray⟩ from rfl, str_cat, str_cat, str_cat, str_cat]), rfl, hcut.trans ?_⟩)
            all_goals (repeat (first | exact Below.refl _ _ | refine Below.drew ?_ | refine Below.trans ?_ (Below.mono hk7 ?_) | refine Below.trans ?_ (Below.mono hk5 ?_) | refine Below.trans ?_ (Below.mono (kept_drewN _ _) ?_)))
            all_goals first | exact hcut.size | exact Nat.le_trans hcut.size (Nat.le_trans (kept_drewN _ _).size hk5.size) | exact Nat.le_trans (Nat.le_trans hcut.size (Nat.le_trans (kept_drewN _ _).size hk5.size)) (kept_drewN _ _).size
          case rest =>
            obtain ⟨rfl, rfl, hcut⟩ := hcut
            go_wp2_with fail
            go_ret2
            exact ⟨by rw [HR.out.1, HR.out.2]; rfl, hcut⟩
    · obtain ⟨r1, r2⟩ := HE.out.1 q
      have hS : prnS z len = [] := by unfold prnS; rw [if_neg q]
      have HR := Lib.hid (And.intro r1 r2)
      have zz : (prnE z len != 0) = true := by simp [q]
      clear HE r1 r2 q
      generalize (⟨(prnS z len).toArray⟩ : ByteArray) = S
      generalize prnE z len = E at zz HR ⊢
      go_wp2_with fail
      go_ret2
      exact ⟨by rw [HR.out.1, HR.out.2]; rfl, hB1⟩
end Go.Proofs.Ytbfipgeoecbpaaa
