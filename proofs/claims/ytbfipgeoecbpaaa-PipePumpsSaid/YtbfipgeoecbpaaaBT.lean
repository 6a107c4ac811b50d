/- A bundle of: FrR. -/
import Derived.Test.YtbfipgeoecbpaaaBH
import Derived.Test.YtbfipgeoecbpaaaBR
import Derived.Deep.DeepCutAuto
import Derived.BigQuiet
import Derived.Deep.RegionHeld3
/- Contract of frame.Read. No condition but those that it names. (Printed by gen_frr.py.) -/
namespace Go.Proofs.Ytbfipgeoecbpaaa
open Go.RowKit
set_option maxRecDepth 20000
/-- A frame read: the number, the events in memory of its own; the place behind; the error. -/
def FrPost (w : World) (r : Int × Nat × List Ev × Nat) (x : Ending) (w' : World) : Prop :=
  ∃ ao cap, x = .returned (.tuple #[.agg #[.int .u32 r.2.1, .slice ao r.2.2.1.length cap], .int .i64 r.2.2.2, .int .i64 r.1]) ∧ w'.ownsRow w.heap.size 25 6 (.slice ao r.2.2.1.length cap) r.2.2.1.length (evCells r.2.2.1) ∧ Below w.heap.size w w'
structure FRt (w : World) (FB r : Nat) (s : ByteArray) (q : Nat) (wr : World) : Prop where
  rd : IsRd wr r s q
  bel : Below w.heap.size w wr
  fb : wr.heap[FB]? = some (.cells #[.int .u32 0, .slice none 0 0] 110 (0, 0))
  fr : FB < r
  lo : w.heap.size ≤ FB
theorem FRt.on {w : World} {FB r : Nat} {s : ByteArray} {q q' : Nat} {wr w2 : World} (h : FRt w FB r s q wr) (o : Only (fun k => k = r) wr w2) (hr : IsRd w2 r s q') : FRt w FB r s q' w2 :=
  have h1 := h.fr
  have h2 := h.lo
  { h with rd := hr, bel := ((Only.of_below h.bel (fun _ => False)).trans o fun i hi hs => by omega).below (Nat.le_refl _) fun _ _ x => x, fb := o.keeps h.fb (by omega) }
theorem FRt.read {w : World} {FB r : Nat} {s : ByteArray} {q q' : Nat} {wr w2 : World} (h : FRt w FB r s q wr) (k : RdPost wr r s q' w2) : FRt w FB r s q' w2 := h.on k.2 k.1
theorem FRt.below {w : World} {FB r : Nat} {s : ByteArray} {q : Nat} {wr w2 : World} (h : FRt w FB r s q wr) (k : Below wr.heap.size wr w2) : FRt w FB r s q w2 :=
  { h with rd := h.rd.kept k, bel := h.bel.trans (k.mono h.bel.size), fb := (k.block _ (blk_lt h.fb)).trans h.fb }
theorem FRt.cells {w : World} {FB r : Nat} {s : ByteArray} {q : Nat} {wr : World} (h : FRt w FB r s q wr) : wr.cell? ⟨FB, 0, none⟩ = some (.int .u32 0) ∧ wr.cell? ⟨FB, 1, none⟩ = some (.slice none 0 0) := by
  refine ⟨?_, ?_⟩ <;> (rw [cell_blk h.fb]; rfl)
theorem bel_set3 {B : Nat} {w w2 : World} (h : Below B w w2) (p : Addr) (v : Value) (hp : B ≤ p.block) : Below B w (w2.setCell p v) :=
  ⟨h.os, h.tape, h.output, by have := h.size; simp [World.setCell]; omega, fun k hk => by rw [Below.heap_setCell _ _ _ _ (fun e => absurd hk (by rw [e]; omega))]; exact h.block k hk⟩
theorem fr_err {w : World} {FB r : Nat} {s : ByteArray} {q : Nat} {wr : World} {R : Int × Nat × List Ev × Nat} {er : Int} (h : FRt w FB r s q wr) (hR : R = (er, 0, [], 0)) :
    FrPost w R (.returned (.tuple #[.agg #[.int .u32 0, .slice none 0 0], .int .i64 0, .int .i64 er])) ((wr.setCell ⟨FB, 0, none⟩ (.int .u32 0)).setCell ⟨FB, 1, none⟩ (.slice none 0 0)) := by
  subst hR
  exact ⟨none, 0, rfl, World.ownsRow_nil _ _ _ _, bel_set3 (bel_set3 h.bel _ _ h.lo) _ _ h.lo⟩
theorem fr_ok {w : World} {FB r : Nat} {s : ByteArray} {q : Nat} {wr : World} {R : Int × Nat × List Ev × Nat} {a n : Nat} {l : List Ev} {ao : Option Addr} {cap : Nat} (h : FRt w FB r s q wr)
    (hown : wr.ownsRow w.heap.size 25 6 (.slice ao l.length cap) l.length (evCells l)) (hR : R = (0, a, l, n)) :
    FrPost w R (.returned (.tuple #[.agg #[.int .u32 a, .slice ao l.length cap], .int .i64 n, .int .i64 0])) ((wr.setCell ⟨FB, 0, none⟩ (.int .u32 a)).setCell ⟨FB, 1, none⟩ (.slice ao l.length cap)) := by
  subst hR
  have hfb := h.fb
  have ho : Only (fun k => k = FB) wr ((wr.setCell ⟨FB, 0, none⟩ (.int .u32 a)).setCell ⟨FB, 1, none⟩ (.slice ao l.length cap)) := ((Only.refl (fun k => k = FB) wr).setCell ⟨FB, 0, none⟩ _ fun _ => rfl).setCell ⟨FB, 1, none⟩ _ fun _ => rfl
  refine ⟨ao, cap, rfl, ?_, bel_set3 (bel_set3 h.bel _ _ h.lo) _ _ h.lo⟩
  rcases hown.2 with h0 | ⟨g, cp, cur, hv, hbg, hb, hr⟩
  · exact ⟨hown.1, .inl h0⟩
  · refine ⟨hown.1, .inr ⟨g, cp, cur, hv, hbg, ho.keeps hb (fun e => ?_), hr⟩⟩
    have e : g = FB := e
    rw [e, hfb] at hb
    simp at hb
theorem fhE_zero {s : ByteArray} {p : Nat} (h : fhE s p = 0) : 1 ≤ (fh4 s p).1 ∧ (fh4 s p).1 ≤ 120 := by
  unfold fhE at h
  by_cases c0 : agree s p ⟨mk.toArray⟩ < 22
  · rw [if_pos c0] at h
    split at h <;> cases h
  · rw [if_neg c0] at h
    split at h
    · rename_i h1; exact absurd h h1
    · split at h
      · rename_i h1; exact absurd h h1
      · split at h
        · rename_i h1; exact absurd h h1
        · split at h
          · rename_i h1; exact absurd h h1
          · split at h
            · cases h
            · omega
theorem rd_ne {P : ByteArray} {cy ct : Nat} (h0 : 0 < P.size) (h : (rdL P P.size cy ct 0).2 = 0) : 0 < (rdL P P.size cy ct 0).1.length := by
  obtain ⟨f, hf⟩ : ∃ f, P.size = f + 1 := ⟨P.size - 1, by omega⟩
  rw [hf] at h ⊢
  rw [rdL, if_pos h0] at h ⊢
  split at h
  · rename_i h1
    rw [if_pos h1]
    simp
  · rename_i h1
    exact absurd h h1
theorem own_cell {w : World} {base cap : Nat} {ao : Option Addr} {l : List Ev} (h : w.ownsRow base 25 6 (.slice ao l.length cap) l.length (evCells l)) (h0 : 0 < l.length) :
    ∃ g off, ao = some ⟨g, off, none⟩ ∧ w.cell? ⟨g, off + 1, none⟩ = some (.int .u64 (l.getD 0 default).cy) ∧ w.cell? ⟨g, off + 2, none⟩ = some (.int .u64 (l.getD 0 default).ct) :=
  first_cells (slArgN_own h) h0
theorem own_mono {w : World} {base base' : Nat} {e : TypeId} {size : Nat} {v : Value} {n : Nat} {xs : List Value} (h : w.ownsRow base e size v n xs) (hb : base' ≤ base) : w.ownsRow base' e size v n xs := World.ownsRow.mono h hb
set_option maxHeartbeats 8000000 in
theorem fread_any (w : World) (tb : Nat) (hT : IsTab w tb) (s : ByteArray) (hs : s.size ≤ 1000000000) (at_ : Int) :
    Calls Try.prog 92 #[.pointer (some ⟨tb, 0, none⟩), .string s, .int .i64 at_] w (FrPost w (frR s at_)) := by
  have hs' : s.size ≤ 140737488355328 := by omega
  have HS := Lib.hid hs
  clear hs
  have htb : tb < w.heap.size := by obtain ⟨C, h1, _⟩ := hT; exact blk_lt h1
  have hTk := fun (wk : World) (k : Below w.heap.size w wk) => hT.kept k
  have st0 : FRt w w.heap.size (w.heap.size + 1) s 0 ((w.alloc (.cells #[.int .u32 0, .slice none 0 0] 110)).alloc (.cells #[.string s, .int .i64 0] 196)) :=
    { rd := by
        have := isRd_new s (w.alloc (.cells #[.int .u32 0, .slice none 0 0] 110))
        rw [World.size_alloc] at this
        exact this
      bel := ((Below.refl w.heap.size w).alloc (Nat.le_refl _) _).alloc (by simp) _
      fb := blk_alloc (heap_alloc_new w _) _
      fr := Nat.lt_succ_self _
      lo := Nat.le_refl _ }
  clear hT
  by_cases hat : at_ < 0 ∨ (s.size : Int) < at_
  · have hsk : sk s 0 at_ = (1, 0) := by unfold sk; rw [if_pos hat]
    have HR := Lib.hid (show frR s at_ = (1, 0, [], 0) by unfold frR; rw [if_pos hat])
    clear hat
    go_enter Try.func92, Try.ntmps92
    go_wp2_with fail
    refine (new_any _ _).mono ?_
    rintro x w1 ⟨rfl, rfl⟩
    generalize (w.alloc (.cells #[.int .u32 0, .slice none 0 0] 110)).alloc (.cells #[.string s, .int .i64 0] 196) = W0 at st0 ⊢
    rw [World.size_alloc]
    obtain ⟨FB, hFB⟩ : ∃ FB, FB = w.heap.size := ⟨_, rfl⟩
    obtain ⟨r, hr⟩ : ∃ r, r = w.heap.size + 1 := ⟨_, rfl⟩
    rw [← hr, ← hFB] at st0 ⊢
    clear hr hFB
    have hsk2 := seek_any st0.rd at_
    rw [hsk] at hsk2
    clear hsk
    go_wp2_with fail
    refine hsk2.mono ?_
    rintro x w2 ⟨rfl, hq⟩
    have st1 := st0.read hq
    clear hsk2 hq st0
    obtain ⟨y0, y1⟩ := st1.cells
    have yf0 := frozen_blk st1.fb 0
    have yf1 := frozen_blk st1.fb 1
    go_wp2_with fail
    exact bodyPost_ret (v := .tuple #[.agg #[.int .u32 0, .slice none 0 0], .int .i64 0, .int .i64 1]) (by simp [results, Try.results92, go_sem, y0, y1]) rfl (fr_err st1 HR.out)
  · obtain ⟨p, rfl⟩ : ∃ p : Nat, at_ = p := ⟨at_.toNat, by omega⟩
    have hp : p ≤ s.size := by omega
    have hsk : sk s 0 (p : Int) = (0, p) := sk_ok s 0 p hp
    have HRf := Lib.hid (show frR s (p : Int) = fRd s p by unfold frR; rw [if_neg hat]; rfl)
    clear hat
    go_enter Try.func92, Try.ntmps92
    go_wp2_with fail
    refine (new_any _ _).mono ?_
    rintro x w1 ⟨rfl, rfl⟩
    generalize (w.alloc (.cells #[.int .u32 0, .slice none 0 0] 110)).alloc (.cells #[.string s, .int .i64 0] 196) = W0 at st0 ⊢
    rw [World.size_alloc]
    obtain ⟨FB, hFB⟩ : ∃ FB, FB = w.heap.size := ⟨_, rfl⟩
    obtain ⟨r, hr⟩ : ∃ r, r = w.heap.size + 1 := ⟨_, rfl⟩
    rw [← hr, ← hFB] at st0 ⊢
    have htr : tb ≠ r := by omega
    clear hr hFB
    have hsk2 := seek_any st0.rd (p : Int)
    rw [hsk] at hsk2
    clear hsk
    go_wp2_with fail
    refine hsk2.mono ?_
    rintro x w2 ⟨rfl, hq⟩
    have st1 := st0.read hq
    clear hsk2 hq st0
    have hhd := header_any st1.rd hp hs' (hTk _ st1.bel) htr
    go_wp2_with fail
    refine hhd.mono ?_
    unfold HdPost
    rintro x w3 ⟨a, b, c, d, q, rfl, hh, hrd, hq, hon⟩
    have st2 := st1.on hon hrd
    clear hhd hrd hon st1
    obtain ⟨E, hE⟩ : ∃ E, E = fhE s p := ⟨_, rfl⟩
    rw [← hE] at hh ⊢
    have HEE := Lib.hid hE
    clear hE
    have hob := heap_alloc_new w3 (.cells #[.int .u32 a, .int .u64 b, .int .u64 c, .int .i64 d] 173)
    have st3 := st2.below ((Below.refl w3.heap.size w3).alloc (Nat.le_refl _) (.cells #[.int .u32 a, .int .u64 b, .int .u64 c, .int .i64 d] 173))
    have hobr : w3.heap.size ≠ r := by have := blk_lt st2.rd; omega
    have hobf : FB < w3.heap.size := blk_lt st2.fb
    clear st2
    by_cases z : E = 0
    · have zz : ((E : Int) != 0) = false := by simp [z]
      obtain ⟨ra, rb, rc, rd', rq⟩ := hh z
      have Z := Lib.hid (show fhE s p = 0 from HEE.out.symm.trans z)
      have RA := Lib.hid (And.intro ra (And.intro rb (And.intro rc (And.intro rd' rq))))
      have hcl : b < 18446744073709551616 := by have := sget_lt s (fh1 s p).2.2 10; unfold U64 at this; rw [rb]; exact this
      have hcl2 : c < 18446744073709551616 := by have := sget_lt s (fh2 s p).2.2 10; unfold U64 at this; rw [rc]; exact this
      have hbd := fhE_zero Z.out
      rw [← rd'] at hbd
      clear hh ra rb rc rd' rq z
      have g0 := cell_blk hob 0
      have g1 := cell_blk hob 1
      have g2 := cell_blk hob 2
      have g3 := cell_blk hob 3
      simp only [List.getElem?_toArray, List.getElem?_cons_zero, List.getElem?_cons_succ] at g0 g1 g2 g3
      go_wp2_with fail
      generalize w3.alloc (.cells #[.int .u32 a, .int .u64 b, .int .u64 c, .int .i64 d] 173) = W3 at st3 hob g0 g1 g2 g3 ⊢
      generalize w3.heap.size = ob at hob hobr hobf g0 g1 g2 g3 ⊢
      have htk := take_any st3.rd hq hs' (d : Int)
      by_cases t0 : s.size - q < d
      · have hte : tk s q (d : Int) = (⟨#[]⟩, 2, q) := by unfold tk; rw [if_neg (by omega), if_pos (by omega)]
        rw [hte] at htk
        have HR := Lib.hid (show frR s (p : Int) = (2, 0, [], 0) by rw [HRf.out]; unfold fRd; rw [if_neg (not_not_intro Z.out), ← RA.out.2.2.2.1, ← RA.out.2.2.2.2, if_pos t0])
        clear hte t0
        refine htk.mono ?_
        rintro x w4 ⟨rfl, hq4⟩
        have st4 := st3.read hq4
        clear htk hq4 st3 g0 g1 g2 g3
        obtain ⟨y0, y1⟩ := st4.cells
        have yf0 := frozen_blk st4.fb 0
        have yf1 := frozen_blk st4.fb 1
        go_wp2_with fail
        exact bodyPost_ret (v := .tuple #[.agg #[.int .u32 0, .slice none 0 0], .int .i64 0, .int .i64 2]) (by simp [results, Try.results92, go_sem, y0, y1]) rfl (fr_err st4 HR.out)
      · have hte : tk s q (d : Int) = (s.extract q (q + d), 0, q + d) := by unfold tk; rw [if_neg (by omega), if_neg (by omega)]; simp
        rw [hte] at htk
        have HT0 := Lib.hid t0
        have hqd : q + d ≤ s.size := by omega
        have hPs : (s.extract q (q + d)).size = d := by rw [ByteArray.size_extract]; omega
        have HPe := Lib.hid (show fhP s p = s.extract q (q + d) by unfold fhP; rw [← RA.out.2.2.2.1, ← RA.out.2.2.2.2])
        clear hte t0
        refine htk.mono ?_
        rintro x w4 ⟨rfl, hq4⟩
        have st4 := st3.read hq4
        have hob4 := hq4.2.keeps hob hobr
        clear htk hq4 st3 g0 g1 g2 g3 hob
        have hsm := fsum_any st4.rd hqd hs' (hTk _ st4.bel) htr (s.extract q (q + d)) (by rw [hPs]; omega)
        have hwn := wrd_next s (q + d) hqd
        have HWN := Lib.hid (show (wrd s (q + d)).2.2 = (wrd s (fhQ s p + (fh4 s p).1)).2.2 by rw [← RA.out.2.2.2.1, ← RA.out.2.2.2.2])
        have HSM := Lib.hid (show smE s (fhQ s p + (fh4 s p).1) (fhP s p).data.toList = smE s (q + d) (s.extract q (q + d)).data.toList by rw [HPe.out, ← RA.out.2.2.2.1, ← RA.out.2.2.2.2])
        generalize smE s (q + d) (s.extract q (q + d)).data.toList = e6 at hsm HSM
        generalize (wrd s (q + d)).2.2 = q6 at hsm hwn HWN
        have hPsz : (s.extract q (q + d)).size ≤ 1000000000 := by rw [hPs]; omega
        have hrd := fun x => cread_any (s.extract q (q + d)) b c hcl hcl2 hPsz x
        have HLP := Lib.hid (show rdL (fhP s p) (fhP s p).size (fh2 s p).1 (fh3 s p).1 0 = rdL (s.extract q (q + d)) (s.extract q (q + d)).size b c 0 by rw [HPe.out, ← RA.out.2.1, ← RA.out.2.2.1])
        have hne := rd_ne (P := s.extract q (q + d)) (cy := b) (ct := c) (by rw [hPs]; omega)
        have hrs : (rdL (s.extract q (q + d)) (s.extract q (q + d)).size b c 0).2 = 0 → rdS (s.extract q (q + d)) b c = (rdL (s.extract q (q + d)) (s.extract q (q + d)).size b c 0).1 := fun h => by unfold rdS; rw [if_pos h]
        generalize rdS (s.extract q (q + d)) b c = ls at hrd hrs
        generalize rdL (s.extract q (q + d)) (s.extract q (q + d)).size b c 0 = L at hrd hrs hne HLP
        generalize s.extract q (q + d) = P at hPs hsm hrd ⊢
        obtain ⟨l, er⟩ := L
        simp only at hrd hrs hne
        clear hPsz hPs HPe
        go_wp2_with fail
        refine hsm.mono ?_
        rintro x w5 ⟨rfl, hq5⟩
        have st5 := st4.read hq5
        have hob5 := hq5.2.keeps hob4 hobr
        clear hsm hq5 st4 hob4
        have g0 := cell_blk hob5 0
        have g1 := cell_blk hob5 1
        have g2 := cell_blk hob5 2
        simp only [List.getElem?_toArray, List.getElem?_cons_zero, List.getElem?_cons_succ] at g0 g1 g2
        by_cases z6 : e6 = 0
        · have zz6 : ((e6 : Int) != 0) = false := by simp [z6]
          have Z6 := Lib.hid z6
          clear z6
          go_wp2_with fail
          refine (hrd _).mono ?_
          unfold EvsPost
          rintro x w6 ⟨ao, cap, rfl, hown, hk⟩
          have st6 := st5.below hk
          have hob6 := (hk.block _ (blk_lt hob5)).trans hob5
          have hb5 := st5.bel.size
          have hown2 := own_mono hown hb5
          clear hk st5 hrd hob5 g0 g1 g2 hown
          by_cases z7 : er = 0
          · have hln := hrs z7
            have hl0 := hne z7
            subst hln
            have Z7 := Lib.hid z7
            have zz7 : (er != 0) = false := by simp [z7]
            clear hrs hne
            obtain ⟨g, off, rfl, k1, k2⟩ := own_cell hown2 hl0
            have hl0' : (0 : Int) < ls.length := by omega
            have hg0 := cell_blk hob6 0
            have hg1 := cell_blk hob6 1
            have hg2 := cell_blk hob6 2
            simp only [List.getElem?_toArray, List.getElem?_cons_zero, List.getElem?_cons_succ] at hg0 hg1 hg2
            have HS0 := Lib.hid (show fRd s p = if (ls.getD 0 default).cy ≠ b ∨ (ls.getD 0 default).ct ≠ c then (3, 0, [], 0) else (0, a, ls, q6) by
              unfold fRd
              rw [if_neg (not_not_intro Z.out), ← RA.out.2.2.2.1, ← RA.out.2.2.2.2, if_neg HT0.out, RA.out.2.2.2.2, RA.out.2.2.2.1, HSM.out, if_neg (not_not_intro Z6.out), HLP.out, if_neg (not_not_intro Z7.out), ← RA.out.1, ← RA.out.2.1, ← RA.out.2.2.1, ← HWN.out])
            by_cases t1 : (ls.getD 0 default).cy = b
            · by_cases t2 : (ls.getD 0 default).ct = c
              · rw [t1] at k1
                rw [t2] at k2
                have w1' : ((b : Int) != b) = false := by simp
                have HR := Lib.hid (show frR s (p : Int) = (0, a, ls, q6) by rw [HRf.out, HS0.out, if_neg (by rw [t1, t2]; simp)])
                clear t1 t2 HS0
                go_wp2_with fail
                go_quiet (fail)
                go_upto_region 20 with fail
                generalize hW7 : World.drewN w6 _ = W7
                have st7 : FRt w FB r s (q6) W7 := by rw [← hW7]; exact st6.below (kept_drewN w6 _)
                have hob7 : W7.heap[ob]? = some (.cells #[.int .u32 a, .int .u64 b, .int .u64 c, .int .i64 d] 173 (0, 0)) := by rw [← hW7]; exact hob6
                have hown7 : W7.ownsRow w.heap.size 25 6 (.slice (some ⟨g, off, none⟩) ls.length cap) ls.length (evCells ls) := by rw [← hW7]; exact hown2
                clear hW7 st6 hob6 hown2 k1 k2 hg0 hg1 hg2
                have hobf' : ob ≠ FB := by omega
                have hobf2 : FB ≠ ob := by omega
                have hat := fun n => at_any (w := W7.drewN n) (b := r) (s := s) (k := q6) st7.rd
                have hat1 := at_any (w := W7.drew) (b := r) (s := s) (k := q6) st7.rd
                have hg0 := cell_blk hob7 0
                simp only [List.getElem?_toArray, List.getElem?_cons_zero] at hg0
                obtain ⟨y0, y1⟩ := st7.cells
                have yf0 := frozen_blk st7.fb 0
                have yf1 := frozen_blk st7.fb 1
                go_region_with (first | (go_at_call 113; (refine hat1.mono ?_); rintro x w11 ⟨rfl, n11, rfl⟩) | (go_at_call 113; (refine (hat _).mono ?_); rintro x w11 ⟨rfl, n11, rfl⟩))
                all_goals go_wp2_with fail
                all_goals exact bodyPost_ret (v := .tuple #[.agg #[.int .u32 a, .slice (some ⟨g, off, none⟩) ls.length cap], .int .i64 q6, .int .i64 0]) (by simp [results, Try.results92, go_sem, y0, y1]) rfl (fr_ok (st7.below (kept_drewN W7 _)) hown7 HR.out)
              · have w1' : (((ls.getD 0 default).cy : Int) != b) = false := by rw [t1]; simp
                have w2' : (((ls.getD 0 default).ct : Int) != c) = true := bne_iff_ne.2 (by omega)
                have HR := Lib.hid (show frR s (p : Int) = (3, 0, [], 0) by rw [HRf.out, HS0.out, if_pos (.inr t2)])
                generalize (ls.getD 0 default).cy = m1 at k1 w1'
                generalize (ls.getD 0 default).ct = m2 at k2 w2'
                clear t1 t2 HS0
                obtain ⟨y0, y1⟩ := st6.cells
                have yf0 := frozen_blk st6.fb 0
                have yf1 := frozen_blk st6.fb 1
                go_wp2_with fail
                go_quiet (fail)
                go_wp2_with fail
                exact bodyPost_ret (v := .tuple #[.agg #[.int .u32 0, .slice none 0 0], .int .i64 0, .int .i64 3]) (by simp [results, Try.results92, go_sem, y0, y1]) rfl (fr_err (st6.below (kept_drewN w6 _)) HR.out)
            · have w1' : (((ls.getD 0 default).cy : Int) != b) = true := bne_iff_ne.2 (by omega)
              have HR := Lib.hid (show frR s (p : Int) = (3, 0, [], 0) by rw [HRf.out, HS0.out, if_pos (.inl t1)])
              generalize (ls.getD 0 default).cy = m1 at k1 w1'
              clear t1 HS0
              obtain ⟨y0, y1⟩ := st6.cells
              have yf0 := frozen_blk st6.fb 0
              have yf1 := frozen_blk st6.fb 1
              go_wp2_with fail
              go_quiet (fail)
              go_wp2_with fail
              exact bodyPost_ret (v := .tuple #[.agg #[.int .u32 0, .slice none 0 0], .int .i64 0, .int .i64 3]) (by simp [results, Try.results92, go_sem, y0, y1]) rfl (fr_err (st6.below (kept_drewN w6 _)) HR.out)
          · have zz7 : (er != 0) = true := by simp [z7]
            have zz8 : (er == 0) = false := eqb_f z7
            have HR := Lib.hid (show frR s (p : Int) = (er, 0, [], 0) by rw [HRf.out]; unfold fRd; rw [if_neg (not_not_intro Z.out), ← RA.out.2.2.2.1, ← RA.out.2.2.2.2, if_neg HT0.out, RA.out.2.2.2.2, RA.out.2.2.2.1, HSM.out, if_neg (not_not_intro Z6.out), HLP.out, if_pos z7])
            clear hrs hne z7 hown2
            obtain ⟨y0, y1⟩ := st6.cells
            have yf0 := frozen_blk st6.fb 0
            have yf1 := frozen_blk st6.fb 1
            go_wp2_with fail
            go_quiet (fail)
            go_wp2_with fail
            exact bodyPost_ret (v := .tuple #[.agg #[.int .u32 0, .slice none 0 0], .int .i64 0, .int .i64 er]) (by simp [results, Try.results92, go_sem, y0, y1]) rfl (fr_err (st6.below (kept_drewN w6 _)) HR.out)
        · have zz6 : ((e6 : Int) != 0) = true := by simp [z6]
          have HR := Lib.hid (show frR s (p : Int) = ((e6 : Int), 0, [], 0) by rw [HRf.out]; unfold fRd; rw [if_neg (not_not_intro Z.out), ← RA.out.2.2.2.1, ← RA.out.2.2.2.2, if_neg HT0.out, RA.out.2.2.2.2, RA.out.2.2.2.1, HSM.out, if_pos z6])
          clear hrs hne z6 hrd g0 g1 g2
          obtain ⟨y0, y1⟩ := st5.cells
          have yf0 := frozen_blk st5.fb 0
          have yf1 := frozen_blk st5.fb 1
          go_wp2_with fail
          exact bodyPost_ret (v := .tuple #[.agg #[.int .u32 0, .slice none 0 0], .int .i64 0, .int .i64 e6]) (by simp [results, Try.results92, go_sem, y0, y1]) rfl (fr_err st5 HR.out)
    · have zz : ((E : Int) != 0) = true := by simp [z]
      have HR := Lib.hid (show frR s (p : Int) = ((E : Int), 0, [], 0) by rw [HRf.out]; unfold fRd; rw [if_pos (by rw [← HEE.out]; exact z), ← HEE.out])
      clear hh z hob
      go_upto_region 8 with fail
      generalize w3.alloc (.cells #[.int .u32 a, .int .u64 b, .int .u64 c, .int .i64 d] 173) = W3 at st3 ⊢
      obtain ⟨y0, y1⟩ := st3.cells
      have yf0 := frozen_blk st3.fb 0
      have yf1 := frozen_blk st3.fb 1
      go_wp2_with fail
      exact bodyPost_ret (v := .tuple #[.agg #[.int .u32 0, .slice none 0 0], .int .i64 0, .int .i64 E]) (by simp [results, Try.results92, go_sem, y0, y1]) rfl (fr_err st3 HR.out)
end Go.Proofs.Ytbfipgeoecbpaaa
