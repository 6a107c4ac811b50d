/- Contract of frame.header. No condition but those that it names. (Printed by gen_frh.py.) -/
import Derived.Test.YthdenjokedmcfaaFrW
import Derived.Test.YthdenjokedmcfaaMk
import Derived.Deep.RegionHeld3
import Derived.Deep.DeepCutAuto
namespace Go.Proofs.Ythdenjokedmcfaa
open Go.RowKit
set_option maxRecDepth 20000
structure HSt (w : World) (r o : Nat) (s : ByteArray) (q a b c d : Nat) (wr : World) : Prop where
  rd : IsRd wr r s q
  on : Only (fun k => k = r) w wr
  co : wr.heap[o]? = some (.cells #[.int .u32 a, .int .u64 b, .int .u64 c, .int .i64 d] 102 (0, 0))
  ro : o ≠ r
  lo : w.heap.size ≤ o
theorem HSt.read {w : World} {r o : Nat} {s : ByteArray} {q q' a b c d : Nat} {wr w2 : World} (h : HSt w r o s q a b c d wr) (k : RdPost wr r s q' w2) : HSt w r o s q' a b c d w2 :=
  { h with rd := k.1, on := h.on.trans k.2 fun _ _ x => x, co := k.2.keeps h.co h.ro }
theorem HSt.below {w : World} {r o : Nat} {s : ByteArray} {q a b c d : Nat} {wr w2 : World} (h : HSt w r o s q a b c d wr) (k : Below wr.heap.size wr w2) : HSt w r o s q a b c d w2 :=
  { h with rd := h.rd.kept k, on := h.on.trans (Only.of_below k (fun _ => False)) fun _ _ x => x.elim, co := (k.block _ (blk_lt h.co)).trans h.co }
theorem HSt.drew {w : World} {r o : Nat} {s : ByteArray} {q a b c d : Nat} {wr w2 : World} (h : HSt w r o s q a b c d wr) (k : ∃ n, wr.drewN n = w2) : HSt w r o s q a b c d w2 := by
  obtain ⟨n, rfl⟩ := k
  exact h.below (kept_drewN wr n)
theorem HSt.store {w : World} {r o : Nat} {s : ByteArray} {q a b c d a' b' c' d' : Nat} {wr : World} (h : HSt w r o s q a b c d wr) (i : Nat) (v : Value)
    (he : (#[Value.int .u32 a, .int .u64 b, .int .u64 c, .int .i64 d] : Array Value).setIfInBounds i v = #[.int .u32 a', .int .u64 b', .int .u64 c', .int .i64 d']) : HSt w r o s q a' b' c' d' (wr.setCell ⟨o, i, none⟩ v) :=
  { h with
    rd := blk_setCell_other (p := ⟨o, i, none⟩) h.rd h.ro.symm v
    on := h.on.setCell ⟨o, i, none⟩ v fun hx => absurd hx (Nat.not_lt.2 h.lo)
    co := by rw [← he]; exact blk_setCell h.co (i := i) v }
theorem HSt.cells {w : World} {r o : Nat} {s : ByteArray} {q a b c d : Nat} {wr : World} (h : HSt w r o s q a b c d wr) : wr.cell? ⟨o, 0, none⟩ = some (.int .u32 a) ∧ wr.cell? ⟨o, 1, none⟩ = some (.int .u64 b) ∧ wr.cell? ⟨o, 2, none⟩ = some (.int .u64 c) ∧ wr.cell? ⟨o, 3, none⟩ = some (.int .i64 d) := by
  refine ⟨?_, ?_, ?_, ?_⟩ <;> (rw [cell_blk h.co]; rfl)
theorem HSt.again {w : World} {r o : Nat} {s : ByteArray} {q a b c d : Nat} {wr : World} (h : HSt w r o s q a b c d wr) :
    HSt w r o s q a b c d ((((wr.setCell ⟨o, 0, none⟩ (.int .u32 a)).setCell ⟨o, 1, none⟩ (.int .u64 b)).setCell ⟨o, 2, none⟩ (.int .u64 c)).setCell ⟨o, 3, none⟩ (.int .i64 d)) :=
  (((h.store 0 (.int .u32 a) rfl).store 1 (.int .u64 b) rfl).store 2 (.int .u64 c) rfl).store 3 (.int .i64 d) rfl
theorem HSt.all {w : World} {r o : Nat} {s : ByteArray} {q a b c d : Nat} {wr : World} (h : HSt w r o s q a b c d wr) :
    wr.cell? ⟨o, 0, none⟩ = some (.int .u32 a) ∧ wr.cell? ⟨o, 1, none⟩ = some (.int .u64 b) ∧ wr.cell? ⟨o, 2, none⟩ = some (.int .u64 c) ∧ wr.cell? ⟨o, 3, none⟩ = some (.int .i64 d) ∧ wr.frozen? ⟨o, 0, none⟩ = false ∧ wr.frozen? ⟨o, 1, none⟩ = false ∧ wr.frozen? ⟨o, 2, none⟩ = false ∧ wr.frozen? ⟨o, 3, none⟩ = false :=
  ⟨h.cells.1, h.cells.2.1, h.cells.2.2.1, h.cells.2.2.2, frozen_blk h.co 0, frozen_blk h.co 1, frozen_blk h.co 2, frozen_blk h.co 3⟩
/-- What header answers. -/
def HdPost (w : World) (r : Nat) (s : ByteArray) (p : Nat) (x : Ending) (w' : World) : Prop :=
  ∃ (a b c d q : Nat), x = .returned (.tuple #[.agg #[.int .u32 a, .int .u64 b, .int .u64 c, .int .i64 d], .int .i64 (fhE s p)]) ∧ (fhE s p = 0 → a = (fh1 s p).1 ∧ b = (fh2 s p).1 ∧ c = (fh3 s p).1 ∧ d = (fh4 s p).1 ∧ q = fhQ s p) ∧ IsRd w' r s q ∧ q ≤ s.size ∧ Only (fun k => k = r) w w'
theorem hd_out {w : World} {r o : Nat} {s : ByteArray} {q a b c d p : Nat} {wr : World} {er : Nat} {X : Int} (h : HSt w r o s q a b c d wr) (hq : q ≤ s.size) (hE : fhE s p = er) (hX : X = er) (h0 : er = 0 → a = (fh1 s p).1 ∧ b = (fh2 s p).1 ∧ c = (fh3 s p).1 ∧ d = (fh4 s p).1 ∧ q = fhQ s p) (w' : World)
    (h4 : w' = (((wr.setCell ⟨o, 0, none⟩ (.int .u32 a)).setCell ⟨o, 1, none⟩ (.int .u64 b)).setCell ⟨o, 2, none⟩ (.int .u64 c)).setCell ⟨o, 3, none⟩ (.int .i64 d)) :
    HdPost w r s p (.returned (.tuple #[.agg #[.int .u32 a, .int .u64 b, .int .u64 c, .int .i64 d], .int .i64 X])) w' := by
  subst h4 hX
  have k := (((h.store 0 (.int .u32 a) rfl).store 1 (.int .u64 b) rfl).store 2 (.int .u64 c) rfl).store 3 (.int .i64 d) (a' := a) (b' := b) (c' := c) (d' := d) rfl
  exact ⟨a, b, c, d, q, by rw [hE], fun x => h0 (hE.symm.trans x), k.rd, hq, k.on⟩
theorem sget_ge (s : ByteArray) (p : Nat) (c : Int) (hp : p ≤ s.size) : p ≤ (sget s p c).2.2 := by
  unfold sget
  split
  · exact Nat.le_refl _
  · have h := sgo_next s p c.toNat 0 0 hp (by omega)
    by_cases e : (sgo s p c.toNat 0 0).2.1 = 0
    · rw [h.2.2 e]; omega
    · rw [(h.2.1 e).2]; exact Nat.le_refl _
theorem wrd_ge (s : ByteArray) (p : Nat) (hp : p ≤ s.size) : p ≤ (wrd s p).2.2 := by
  unfold wrd
  split
  · exact sget_ge s p 5 hp
  · exact sget_ge s p 5 hp
theorem mk_size : (⟨mk.toArray⟩ : ByteArray).size = 22 := rfl
theorem mk_any (w : World) : Calls Try.prog 39 #[] w fun e w' => e = .returned (.string ⟨mk.toArray⟩) ∧ Below w.heap.size w w' := marker_any w
theorem agree_le (s : ByteArray) (p : Nat) (hp : p ≤ s.size) : agree s p ⟨mk.toArray⟩ ≤ 22 ∧ agree s p ⟨mk.toArray⟩ ≤ s.size - p := by
  have h := agrL_le mk (s.data.toList.drop p)
  have h2 : (s.data.toList.drop p).length = s.size - p := by simp
  rw [h2] at h
  exact h
set_option maxHeartbeats 8000000 in
theorem header_any {w : World} {r tb : Nat} {s : ByteArray} {p : Nat} (h : IsRd w r s p) (hp : p ≤ s.size) (hs : s.size ≤ 140737488355328) (hT : IsTab w tb) (hne : tb ≠ r) :
    Calls Try.prog 56 #[.pointer (some ⟨tb, 0, none⟩), .string s, .pointer (some ⟨r, 0, none⟩)] w (HdPost w r s p) := by
  have hrl := blk_lt h
  have st0 : HSt w r w.heap.size s p 0 0 0 0 (w.alloc (.cells #[.int .u32 0, .int .u64 0, .int .u64 0, .int .i64 0] 102)) :=
    { rd := h.only ((Only.refl (fun _ => False) w).alloc _) (fun x => x)
      on := (Only.refl _ w).alloc _
      co := heap_alloc_new w _
      ro := by omega
      lo := Nat.le_refl _ }
  have HTK := Lib.hid (fun (wk : World) (o : Only (fun k => k = r) w wk) => hT.only o hne)
  have HPS := Lib.hid hp
  obtain ⟨hag, hag2⟩ := agree_le s p hp
  clear h hT
  go_enter Try.func56, Try.ntmps56
  go_wp2_with fail
  generalize w.alloc (.cells #[.int .u32 0, .int .u64 0, .int .u64 0, .int .i64 0] 102) = W0 at st0 ⊢
  obtain ⟨o, ho⟩ : ∃ o, o = w.heap.size := ⟨_, rfl⟩
  rw [← ho] at st0 ⊢
  clear ho
  refine (mk_any _).mono ?_
  rintro x w1 ⟨rfl, hk⟩
  have st1 := st0.below hk
  clear hk st0
  have hMs := mk_size
  have HAG := Lib.hid (show agree s p ⟨mk.toArray⟩ = agree s p ⟨mk.toArray⟩ from rfl)
  have hag3 := fun x (h : IsRd x r s p) => agree_any h hp hs ⟨mk.toArray⟩ (by decide)
  have HE0 := Lib.hid (show fhE s p = if agree s p ⟨mk.toArray⟩ < 22 then (if agree s p ⟨mk.toArray⟩ = s.size - p then 2 else 3)
    else if (fh1 s p).2.1 ≠ 0 then (fh1 s p).2.1 else if (fh2 s p).2.1 ≠ 0 then (fh2 s p).2.1 else if (fh3 s p).2.1 ≠ 0 then (fh3 s p).2.1 else if (fh4 s p).2.1 ≠ 0 then (fh4 s p).2.1
    else if (fh4 s p).1 < 1 ∨ 120 < (fh4 s p).1 then 4 else smE s (fh4 s p).2.2 (fhB s p) from rfl)
  clear HAG
  generalize agree s p ⟨mk.toArray⟩ = ag at hag hag2 hag3 HE0
  generalize (⟨mk.toArray⟩ : ByteArray) = M at hMs hag3 ⊢
  go_wp2_with fail
  refine (hag3 _ st1.rd).mono ?_
  rintro x w2 ⟨rfl, hn2⟩
  have st2 := st1.drew hn2
  clear st1 hag3 hn2
  have hlf := left_any st2.rd hp hs
  by_cases c0 : ag < 22
  · have d0 : (ag : Int) < 22 := by omega
    by_cases c1 : ag = s.size - p
    · have d1 : ((ag : Int) == (s.size : Int) - p) = true := eqb_t (by omega)
      have HE := Lib.hid (show fhE s p = 2 by rw [HE0.out, if_pos c0, if_pos c1])
      have C1 := Lib.hid c1
      clear HE0 c1 c0
      go_wp2_with fail
      refine hlf.mono ?_
      rintro x w3 ⟨rfl, hn3⟩
      have st3 := st2.drew hn3
      clear st2 hn3 hlf
      obtain ⟨y0, y1, y2, y3⟩ := st3.cells
      have yf0 := frozen_blk st3.co 0
      have yf1 := frozen_blk st3.co 1
      have yf2 := frozen_blk st3.co 2
      have yf3 := frozen_blk st3.co 3
      go_wp2_with fail
      exact bodyPost_ret (v := .tuple #[.agg #[.int .u32 (0 : Nat), .int .u64 (0 : Nat), .int .u64 (0 : Nat), .int .i64 (0 : Nat)], .int .i64 2]) (by simp [results, Try.results56, go_sem, y0, y1, y2, y3]) rfl (hd_out st3 hp HE.out rfl (fun x => by cases x) _ rfl)
    · have d1 : ((ag : Int) == (s.size : Int) - p) = false := eqb_f (by omega)
      have HE := Lib.hid (show fhE s p = 3 by rw [HE0.out, if_pos c0, if_neg c1])
      clear HE0 c1 c0
      go_wp2_with fail
      refine hlf.mono ?_
      rintro x w3 ⟨rfl, hn3⟩
      have st3 := st2.drew hn3
      clear st2 hn3 hlf
      obtain ⟨y0, y1, y2, y3⟩ := st3.cells
      have yf0 := frozen_blk st3.co 0
      have yf1 := frozen_blk st3.co 1
      have yf2 := frozen_blk st3.co 2
      have yf3 := frozen_blk st3.co 3
      go_wp2_with fail
      exact bodyPost_ret (v := .tuple #[.agg #[.int .u32 (0 : Nat), .int .u64 (0 : Nat), .int .u64 (0 : Nat), .int .i64 (0 : Nat)], .int .i64 3]) (by simp [results, Try.results56, go_sem, y0, y1, y2, y3]) rfl (hd_out st3 hp HE.out rfl (fun x => by cases x) _ rfl)
  · obtain rfl : ag = 22 := by omega
    have hp22 : p + 22 ≤ s.size := by omega
    have HE1 := Lib.hid (HE0.out.trans (if_neg (by decide)))
    have htk : tk s p 22 = (s.extract p (p + 22), 0, p + 22) := by
      unfold tk
      rw [if_neg (by decide), if_neg (by omega)]
      rfl
    clear HE0 c0 hlf hag hag2
    have hat := at_any st2.rd
    go_wp2_with fail
    refine hat.mono ?_
    rintro x w3 ⟨rfl, hn3⟩
    have st3 := st2.drew hn3
    clear hat st2 hn3
    have htake := take_any st3.rd hp hs 22
    rw [htk] at htake
    clear htk
    go_wp2_with fail
    refine htake.mono ?_
    rintro x w4 ⟨rfl, hq⟩
    have st4 := st3.read hq
    clear htake st3 hq
    have hcall := fword_any st4.rd hp22 hs
    have hfe : wrd s (p + 22) = fh1 s p := rfl
    have hnx := wrd_next s _ hp22
    rw [hfe] at hcall hnx
    clear hfe
    have hvl : (fh1 s p).1 ≤ 4294967295 := wrd_le s _ hp22
    obtain ⟨⟨v1, er1, q1⟩, hh⟩ : ∃ t, t = fh1 s p := ⟨_, rfl⟩
    rw [← hh] at hcall hnx hvl
    simp only at hcall hnx hvl
    have H1 := Lib.hid hh
    have q1le : q1 ≤ s.size := hnx
    clear hh hnx
    obtain ⟨y0, y1, y2, y3⟩ := st4.cells
    have yf0 := frozen_blk st4.co 0
    have yf1 := frozen_blk st4.co 1
    have yf2 := frozen_blk st4.co 2
    have yf3 := frozen_blk st4.co 3
    go_wp2_with fail
    refine hcall.mono ?_
    rintro x w5 ⟨rfl, hq⟩
    have st5r := st4.read hq
    clear hcall hq y0 y1 y2 y3 yf0 yf1 yf2 yf3 st4
    obtain ⟨y0, y1, y2, y3⟩ := st5r.cells
    have yf0 := frozen_blk st5r.co 0
    have yf1 := frozen_blk st5r.co 1
    have yf2 := frozen_blk st5r.co 2
    have yf3 := frozen_blk st5r.co 3
    have st5 : HSt w r o s q1 v1 (0 : Nat) (0 : Nat) (0 : Nat) (w5.setCell ⟨o, 0, none⟩ (.int .u32 v1)) := st5r.store 0 (.int .u32 v1) rfl
    by_cases z1 : er1 = 0
    · have zz : ((er1 : Int) != 0) = false := by simp [z1]
      have Z1 := Lib.hid z1
      clear z1
      have hcall := sget_any st5.rd q1le hs 10
      have hfe : sget s q1 10 = fh2 s p := by unfold fh2; rw [← H1.out]
      have hnx := (sget_next s _ 10 q1le).1
      rw [hfe] at hcall hnx
      clear hfe
      have hvl : (fh2 s p).1 < U64 := sget_lt s _ 10
      obtain ⟨⟨v2, er2, q2⟩, hh⟩ : ∃ t, t = fh2 s p := ⟨_, rfl⟩
      rw [← hh] at hcall hnx hvl
      simp only at hcall hnx hvl
      have H2 := Lib.hid hh
      have q2le : q2 ≤ s.size := hnx
      clear hh hnx
      obtain ⟨y0, y1, y2, y3⟩ := st5.cells
      have yf0 := frozen_blk st5.co 0
      have yf1 := frozen_blk st5.co 1
      have yf2 := frozen_blk st5.co 2
      have yf3 := frozen_blk st5.co 3
      go_wp2_with fail
      refine hcall.mono ?_
      rintro x w6 ⟨rfl, hq⟩
      have st6r := st5.read hq
      clear hcall hq y0 y1 y2 y3 yf0 yf1 yf2 yf3 st5
      obtain ⟨y0, y1, y2, y3⟩ := st6r.cells
      have yf0 := frozen_blk st6r.co 0
      have yf1 := frozen_blk st6r.co 1
      have yf2 := frozen_blk st6r.co 2
      have yf3 := frozen_blk st6r.co 3
      have st6 : HSt w r o s q2 v1 v2 (0 : Nat) (0 : Nat) (w6.setCell ⟨o, 1, none⟩ (.int .u64 v2)) := st6r.store 1 (.int .u64 v2) rfl
      by_cases z2 : er2 = 0
      · have zz : ((er2 : Int) != 0) = false := by simp [z2]
        have Z2 := Lib.hid z2
        clear z2
        have hcall := sget_any st6.rd q2le hs 10
        have hfe : sget s q2 10 = fh3 s p := by unfold fh3; rw [← H2.out]
        have hnx := (sget_next s _ 10 q2le).1
        rw [hfe] at hcall hnx
        clear hfe
        have hvl : (fh3 s p).1 < U64 := sget_lt s _ 10
        obtain ⟨⟨v3, er3, q3⟩, hh⟩ : ∃ t, t = fh3 s p := ⟨_, rfl⟩
        rw [← hh] at hcall hnx hvl
        simp only at hcall hnx hvl
        have H3 := Lib.hid hh
        have q3le : q3 ≤ s.size := hnx
        clear hh hnx
        obtain ⟨y0, y1, y2, y3⟩ := st6.cells
        have yf0 := frozen_blk st6.co 0
        have yf1 := frozen_blk st6.co 1
        have yf2 := frozen_blk st6.co 2
        have yf3 := frozen_blk st6.co 3
        go_wp2_with fail
        refine hcall.mono ?_
        rintro x w7 ⟨rfl, hq⟩
        have st7r := st6.read hq
        clear hcall hq y0 y1 y2 y3 yf0 yf1 yf2 yf3 st6
        obtain ⟨y0, y1, y2, y3⟩ := st7r.cells
        have yf0 := frozen_blk st7r.co 0
        have yf1 := frozen_blk st7r.co 1
        have yf2 := frozen_blk st7r.co 2
        have yf3 := frozen_blk st7r.co 3
        have st7 : HSt w r o s q3 v1 v2 v3 (0 : Nat) (w7.setCell ⟨o, 2, none⟩ (.int .u64 v3)) := st7r.store 2 (.int .u64 v3) rfl
        by_cases z3 : er3 = 0
        · have zz : ((er3 : Int) != 0) = false := by simp [z3]
          have Z3 := Lib.hid z3
          clear z3
          have hcall := sget_any st7.rd q3le hs 2
          have hfe : sget s q3 2 = fh4 s p := by unfold fh4; rw [← H3.out]
          have hnx := (sget_next s _ 2 q3le).1
          rw [hfe] at hcall hnx
          clear hfe
          have hvl : (fh4 s p).1 < U64 := sget_lt s _ 2
          obtain ⟨⟨v4, er4, q4⟩, hh⟩ : ∃ t, t = fh4 s p := ⟨_, rfl⟩
          rw [← hh] at hcall hnx hvl
          simp only at hcall hnx hvl
          have H4 := Lib.hid hh
          have q4le : q4 ≤ s.size := hnx
          clear hh hnx
          obtain ⟨y0, y1, y2, y3⟩ := st7.cells
          have yf0 := frozen_blk st7.co 0
          have yf1 := frozen_blk st7.co 1
          have yf2 := frozen_blk st7.co 2
          have yf3 := frozen_blk st7.co 3
          go_wp2_with fail
          refine hcall.mono ?_
          rintro x w8 ⟨rfl, hq⟩
          have st8r := st7.read hq
          clear hcall hq y0 y1 y2 y3 yf0 yf1 yf2 yf3 st7
          obtain ⟨y0, y1, y2, y3⟩ := st8r.cells
          have yf0 := frozen_blk st8r.co 0
          have yf1 := frozen_blk st8r.co 1
          have yf2 := frozen_blk st8r.co 2
          have yf3 := frozen_blk st8r.co 3
          have st8 := st8r
          by_cases z4 : er4 = 0
          · have zz : ((er4 : Int) != 0) = false := by simp [z4]
            have Z4 := Lib.hid z4
            clear z4
            have g1 := sget_ge s q3 2 q3le
            have g2 := sget_ge s q2 10 q2le
            have g3 := sget_ge s q1 10 q1le
            have g4 := wrd_ge s (p + 22) hp22
            have gq : p + 16 ≤ q4 := by
              have e1 : (wrd s (p + 22)).2.2 = q1 := (congrArg (fun x => x.2.2) H1.out).symm
              have e2 : (sget s q1 10).2.2 = q2 := by have := (congrArg (fun x => x.2.2) H2.out).symm; unfold fh2 at this; rw [← H1.out] at this; exact this
              have e3 : (sget s q2 10).2.2 = q3 := by have := (congrArg (fun x => x.2.2) H3.out).symm; unfold fh3 at this; rw [← H2.out] at this; exact this
              have e4 : (sget s q3 2).2.2 = q4 := by have := (congrArg (fun x => x.2.2) H4.out).symm; unfold fh4 at this; rw [← H3.out] at this; exact this
              omega
            clear g1 g2 g3 g4
            have HX : Hid (fhE s p = if v4 < 1 ∨ 120 < v4 then 4 else smE s q4 (fhB s p)) := Lib.hid (by rw [HE1.out, if_neg (by rw [← H1.out]; exact not_not_intro Z1.out), if_neg (by rw [← H2.out]; exact not_not_intro Z2.out), if_neg (by rw [← H3.out]; exact not_not_intro Z3.out), if_neg (by rw [← H4.out]; exact not_not_intro Z4.out), ← H4.out])
            by_cases zb : v4 < 1 ∨ 120 < v4
            · have HEx := Lib.hid (And.intro (show fhE s p = 4 by rw [HX.out, if_pos zb]) (show (4 : Nat) ≠ 0 by decide))
              rcases zb with zb | zb
              · have b1 : (v4 : Int) < 1 := by omega
                go_wp2_with fail
                exact bodyPost_ret (v := .tuple #[.agg #[.int .u32 v1, .int .u64 v2, .int .u64 v3, .int .i64 (0 : Nat)], .int .i64 4]) (by simp [results, Try.results56, go_sem, y0, y1, y2, y3]) rfl (hd_out st8 q4le HEx.out.1 rfl (fun x => absurd x HEx.out.2) _ rfl)
              · have b1 : ¬ (v4 : Int) < 1 := by omega
                have b2 : (120 : Int) < v4 := by omega
                go_wp2_with fail
                exact bodyPost_ret (v := .tuple #[.agg #[.int .u32 v1, .int .u64 v2, .int .u64 v3, .int .i64 (0 : Nat)], .int .i64 4]) (by simp [results, Try.results56, go_sem, y0, y1, y2, y3]) rfl (hd_out st8 q4le HEx.out.1 rfl (fun x => absurd x HEx.out.2) _ rfl)
            · have b1 : ¬ (v4 : Int) < 1 := by omega
              have b2 : ¬ (120 : Int) < v4 := by omega
              have hv4 : v4 ≤ 120 := by omega
              have HX2 := Lib.hid (HX.out.trans (if_neg zb))
              have st9 : HSt w r o s q4 v1 v2 v3 v4 (w8.setCell ⟨o, 3, none⟩ (.int .i64 v4)) := st8.store 3 (.int .i64 v4) rfl
              clear HX zb
              go_upto_region 24 with fail
              clear y0 y1 y2 y3 yf0 yf1 yf2 yf3 st8 st8r b1 b2
              generalize w8.setCell ⟨o, 3, none⟩ (.int .i64 v4) = W9 at st9 ⊢
              have hTn := HTK.out _ st9.on
              have hat := at_any (w := W9.drew) (b := r) (s := s) (k := q4) st9.rd
              have hxs : (s.extract (p + 16) q4).size ≤ 140737488355328 := by rw [ByteArray.size_extract]; omega
              have hfs := fun n => fsum_any (w := W9.drewN n) (b := r) (tb := tb) (s := s) (p := q4) st9.rd q4le hs hTn hne (s.extract (p + 16) q4) hxs
              have hB4 : fhB s p = (s.extract (p + 16) q4).data.toList := by unfold fhB; rw [← H4.out]
              have HX3 := Lib.hid (show fhE s p = smE s q4 (s.extract (p + 16) q4).data.toList by rw [HX2.out, hB4])
              clear hB4 HX2
              generalize smE s q4 (s.extract (p + 16) q4).data.toList = e6 at hfs HX3
              have HQ4 := Lib.hid (show (wrd s q4).2.2 = fhQ s p by unfold fhQ; rw [← H4.out])
              have hq6 := wrd_next s q4 q4le
              generalize (wrd s q4).2.2 = q6 at hfs HQ4 hq6
              obtain ⟨y0, y1, y2, y3⟩ := st9.cells
              have H := And.intro y0 (And.intro y1 (And.intro y2 (And.intro y3 (And.intro (frozen_blk st9.co 0) (And.intro (frozen_blk st9.co 1) (And.intro (frozen_blk st9.co 2) (frozen_blk st9.co 3)))))))
              clear y0 y1 y2 y3
              have gqi : (p : Int) + 16 ≤ q4 := by omega
              have gqs : (q4 : Int) ≤ s.size := by omega
              have gq0 : (0 : Int) ≤ (p : Int) + 16 := by omega
              have gqn : ((p : Int) + 16).toNat = p + 16 := by omega
              have gq4 : (0 : Int) ≤ (q4 : Int) := by omega
              go_region_held3 (fun w' => w'.cell? ⟨o, 0, none⟩ = some (.int .u32 v1) ∧ w'.cell? ⟨o, 1, none⟩ = some (.int .u64 v2) ∧ w'.cell? ⟨o, 2, none⟩ = some (.int .u64 v3) ∧ w'.cell? ⟨o, 3, none⟩ = some (.int .i64 v4) ∧ w'.frozen? ⟨o, 0, none⟩ = false ∧ w'.frozen? ⟨o, 1, none⟩ = false ∧ w'.frozen? ⟨o, 2, none⟩ = false ∧ w'.frozen? ⟨o, 3, none⟩ = false) (first | exact H | exact H2c | exact H3c | exact st12.again.all) (first | (go_at_call 60; (refine hat.mono ?_); rintro x w11 ⟨rfl, n11, rfl⟩; have H2c : (W9.drew.drewN n11).cell? ⟨o, 0, none⟩ = some (.int .u32 v1) ∧ (W9.drew.drewN n11).cell? ⟨o, 1, none⟩ = some (.int .u64 v2) ∧ (W9.drew.drewN n11).cell? ⟨o, 2, none⟩ = some (.int .u64 v3) ∧ (W9.drew.drewN n11).cell? ⟨o, 3, none⟩ = some (.int .i64 v4) ∧ (W9.drew.drewN n11).frozen? ⟨o, 0, none⟩ = false ∧ (W9.drew.drewN n11).frozen? ⟨o, 1, none⟩ = false ∧ (W9.drew.drewN n11).frozen? ⟨o, 2, none⟩ = false ∧ (W9.drew.drewN n11).frozen? ⟨o, 3, none⟩ = false := H) | (go_at_call 58; (refine (hfs (1 + n11)).mono ?_); rintro x w12 ⟨rfl, hq12⟩; have st12 : HSt w r o s _ v1 v2 v3 v4 w12 := (st9.below (kept_drewN W9 (1 + n11))).read hq12; have H3c : w12.cell? ⟨o, 0, none⟩ = some (.int .u32 v1) ∧ w12.cell? ⟨o, 1, none⟩ = some (.int .u64 v2) ∧ w12.cell? ⟨o, 2, none⟩ = some (.int .u64 v3) ∧ w12.cell? ⟨o, 3, none⟩ = some (.int .i64 v4) ∧ w12.frozen? ⟨o, 0, none⟩ = false ∧ w12.frozen? ⟨o, 1, none⟩ = false ∧ w12.frozen? ⟨o, 2, none⟩ = false ∧ w12.frozen? ⟨o, 3, none⟩ = false := ⟨st12.cells.1, st12.cells.2.1, st12.cells.2.2.1, st12.cells.2.2.2, frozen_blk st12.co 0, frozen_blk st12.co 1, frozen_blk st12.co 2, frozen_blk st12.co 3⟩))
              clear H H2c H3c hat hfs gqi gqs gq0 gqn gq4
              obtain ⟨y0, y1, y2, y3⟩ := st12.cells
              go_wp2_with fail
              exact bodyPost_ret (v := .tuple #[.agg #[.int .u32 v1, .int .u64 v2, .int .u64 v3, .int .i64 v4], .int .i64 e6]) (by simp [results, Try.results56, go_sem, y0, y1, y2, y3]) rfl (hd_out st12 hq6 HX3.out rfl (fun _ => ⟨by rw [← H1.out], by rw [← H2.out], by rw [← H3.out], by rw [← H4.out], HQ4.out⟩) _ rfl)
          · have zz : ((er4 : Int) != 0) = true := by simp [z4]
            have HEx := Lib.hid (And.intro (show fhE s p = er4 by rw [HE1.out, if_neg (by rw [← H1.out]; exact not_not_intro Z1.out), if_neg (by rw [← H2.out]; exact not_not_intro Z2.out), if_neg (by rw [← H3.out]; exact not_not_intro Z3.out), if_pos (by rw [← H4.out]; exact z4), ← H4.out]) z4)
            clear HE1 z4
            go_wp2_with fail
            exact bodyPost_ret (v := .tuple #[.agg #[.int .u32 v1, .int .u64 v2, .int .u64 v3, .int .i64 (0 : Nat)], .int .i64 er4]) (by simp [results, Try.results56, go_sem, y0, y1, y2, y3]) rfl (hd_out st8 q4le HEx.out.1 rfl (fun x => absurd x HEx.out.2) _ rfl)
        · have zz : ((er3 : Int) != 0) = true := by simp [z3]
          have HEx := Lib.hid (And.intro (show fhE s p = er3 by rw [HE1.out, if_neg (by rw [← H1.out]; exact not_not_intro Z1.out), if_neg (by rw [← H2.out]; exact not_not_intro Z2.out), if_pos (by rw [← H3.out]; exact z3), ← H3.out]) z3)
          clear HE1 z3
          clear y0 y1 y2 y3 yf0 yf1 yf2 yf3
          obtain ⟨y0, y1, y2, y3⟩ := st7r.cells
          have yf0 := frozen_blk st7r.co 0
          have yf1 := frozen_blk st7r.co 1
          have yf2 := frozen_blk st7r.co 2
          have yf3 := frozen_blk st7r.co 3
          go_wp2_with fail
          exact bodyPost_ret (v := .tuple #[.agg #[.int .u32 v1, .int .u64 v2, .int .u64 v3, .int .i64 (0 : Nat)], .int .i64 er3]) (by simp [results, Try.results56, go_sem, y0, y1, y2, y3]) rfl (hd_out st7 q3le HEx.out.1 rfl (fun x => absurd x HEx.out.2) _ rfl)
      · have zz : ((er2 : Int) != 0) = true := by simp [z2]
        have HEx := Lib.hid (And.intro (show fhE s p = er2 by rw [HE1.out, if_neg (by rw [← H1.out]; exact not_not_intro Z1.out), if_pos (by rw [← H2.out]; exact z2), ← H2.out]) z2)
        clear HE1 z2
        clear y0 y1 y2 y3 yf0 yf1 yf2 yf3
        obtain ⟨y0, y1, y2, y3⟩ := st6r.cells
        have yf0 := frozen_blk st6r.co 0
        have yf1 := frozen_blk st6r.co 1
        have yf2 := frozen_blk st6r.co 2
        have yf3 := frozen_blk st6r.co 3
        go_wp2_with fail
        exact bodyPost_ret (v := .tuple #[.agg #[.int .u32 v1, .int .u64 v2, .int .u64 (0 : Nat), .int .i64 (0 : Nat)], .int .i64 er2]) (by simp [results, Try.results56, go_sem, y0, y1, y2, y3]) rfl (hd_out st6 q2le HEx.out.1 rfl (fun x => absurd x HEx.out.2) _ rfl)
    · have zz : ((er1 : Int) != 0) = true := by simp [z1]
      have HEx := Lib.hid (And.intro (show fhE s p = er1 by rw [HE1.out, if_pos (by rw [← H1.out]; exact z1), ← H1.out]) z1)
      clear HE1 z1
      clear y0 y1 y2 y3 yf0 yf1 yf2 yf3
      obtain ⟨y0, y1, y2, y3⟩ := st5r.cells
      have yf0 := frozen_blk st5r.co 0
      have yf1 := frozen_blk st5r.co 1
      have yf2 := frozen_blk st5r.co 2
      have yf3 := frozen_blk st5r.co 3
      go_wp2_with fail
      exact bodyPost_ret (v := .tuple #[.agg #[.int .u32 v1, .int .u64 (0 : Nat), .int .u64 (0 : Nat), .int .i64 (0 : Nat)], .int .i64 er1]) (by simp [results, Try.results56, go_sem, y0, y1, y2, y3]) rfl (hd_out st5 q1le HEx.out.1 rfl (fun x => absurd x HEx.out.2) _ rfl)
end Go.Proofs.Ythdenjokedmcfaa
