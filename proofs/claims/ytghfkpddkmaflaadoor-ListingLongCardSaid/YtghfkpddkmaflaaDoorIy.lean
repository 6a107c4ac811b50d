/- Contract of listing.Parse. Conditions: the library's variables' data. -/
import Derived.Test.YtghfkpddkmaflaaDoorIx
namespace Go.Proofs.YtghfkpddkmaflaaDoor
open Go Go.RowKit
set_option linter.unusedVariables false
set_option linter.unusedSimpArgs false
set_option maxRecDepth 20000
theorem bT (b : Bool) : b = true ∨ b = false := by cases b <;> simp
def Iz (w : World) (r : Nat) : Prop := w.heap[r]? = some (.cells #[.int .i64 0, .int .i64 0, .int .i64 0, .int .i64 0, .int .i64 0, .int .u32 0] 24 (0, 0))
theorem Iz.cells {w : World} {r : Nat} (h : Iz w r) : (w.cell? ⟨r, 0, none⟩ = some (.int .i64 0) ∧ w.cell? ⟨r, 1, none⟩ = some (.int .i64 0) ∧ w.cell? ⟨r, 2, none⟩ = some (.int .i64 0) ∧ w.cell? ⟨r, 3, none⟩ = some (.int .i64 0) ∧ w.cell? ⟨r, 4, none⟩ = some (.int .i64 0) ∧ w.cell? ⟨r, 5, none⟩ = some (.int .u32 0)) ∧ (w.frozen? ⟨r, 0, none⟩ = false ∧ w.frozen? ⟨r, 1, none⟩ = false ∧ w.frozen? ⟨r, 2, none⟩ = false ∧ w.frozen? ⟨r, 3, none⟩ = false ∧ w.frozen? ⟨r, 4, none⟩ = false ∧ w.frozen? ⟨r, 5, none⟩ = false) :=
  ⟨⟨by rw [cell_blk h]; rfl, by rw [cell_blk h]; rfl, by rw [cell_blk h]; rfl, by rw [cell_blk h]; rfl, by rw [cell_blk h]; rfl, by rw [cell_blk h]; rfl⟩, frozen_blk h 0, frozen_blk h 1, frozen_blk h 2, frozen_blk h 3, frozen_blk h 4, frozen_blk h 5⟩
theorem WsIn.on {w w' : World} {q : Nat} {W : List (List UInt8)} (h : WsIn w q W) (k : Below w.heap.size w w') : WsIn w' q W := by
  obtain ⟨cs, fz, a, b, c⟩ := h
  exact ⟨cs, fz, (k.block _ (blk_lt a)).trans a, b, c⟩
theorem WsIn.cell {w : World} {q : Nat} {W : List (List UInt8)} (h : WsIn w q W) {i : Nat} (hi : i < W.length) : w.cell? ⟨q, i, none⟩ = some (.string (wsB W i)) := by
  obtain ⟨cs, fz, a, b, c⟩ := h
  rw [cell_blk a]
  exact c i hi
/-- The chain of fields, from the last one back. -/
def K4 (o : Int) (a b d c : Nat) (rem : List (List UInt8)) : Option Ins := (tkF (uK o) (numP 32) rem).bind fun k => if k.2 = [] then some ⟨o, a, b, c, d, k.1⟩ else none
def K3 (o : Int) (a b d : Nat) (rem : List (List UInt8)) : Option Ins := (tkF (hC o d) rdR rem).bind fun c => K4 o a b d c.1 c.2
def K2 (o : Int) (a b : Nat) (rem : List (List UInt8)) : Option Ins := (tkF (uD o) rdD rem).bind fun d => K3 o a b d.1 d.2
def K1 (o : Int) (a : Nat) (rem : List (List UInt8)) : Option Ins := (tkF (uB o) rdR rem).bind fun b => K2 o a b.1 b.2
def K0 (o : Int) (rem : List (List UInt8)) : Option Ins := (tkF (uA o) rdR rem).bind fun a => K1 o a.1 a.2
theorem insE_K (W : List (List UInt8)) : insE W = if iop (wsB W 0) = 0 then none else K0 (iop (wsB W 0)) (W.drop 1) := by
  unfold insE wsB
  by_cases h : iop ⟨(W.getD 0 []).toArray⟩ = 0
  · rw [if_pos h]; simp only [h]; rfl
  · rw [if_neg h]; simp only [h]; rfl
/-- What is known of the answer so far. -/
def Stg (E F : Option Ins) (bad : Bool) : Prop := (bad = false → E = F) ∧ (bad = true → E = none)
theorem Stg.no {E : Option Ins} {bad : Bool} {rd : List UInt8 → Option Nat} {rem : List (List UInt8)} {f : Nat × List (List UInt8) → Option Ins} {h : Bool} (hh : h = false) (s : Stg E ((tkF h rd rem).bind f) bad) : Stg E (f (0, rem)) bad := by
  subst hh
  exact s
theorem Stg.yes {E : Option Ins} {w w' : World} {r q lim v : Nat} {bad bad' : Bool} {rd : List UInt8 → Option Nat} {rem rem' : List (List UInt8)} {f : Nat × List (List UInt8) → Option Ins} {h : Bool} (hh : h = true) (s : Stg E ((tkF h rd rem).bind f) bad) (k : RF w r q rd lim rem bad v rem' bad' w') : Stg E (f (v, rem')) bad' := by
  subst hh
  cases bad with
  | true => exact ⟨fun h => absurd (h.symm.trans (k.st.out rfl)) (by decide), fun _ => s.2 rfl⟩
  | false =>
    have e := s.1 rfl
    cases ht : tkF true rd rem with
    | none =>
      rw [ht] at e
      exact ⟨fun h => absurd (h.symm.trans (k.no.out ht)) (by decide), fun _ => e⟩
    | some p =>
      obtain ⟨n, t⟩ := p
      obtain ⟨rfl, rfl, rfl⟩ := k.ok.out n t ht
      rw [ht] at e
      exact ⟨fun _ => e, fun h => by cases h⟩
/-- Where Parse stands. -/
structure PS (w : World) (r0 r q x : Nat) (I : Ins) (rem : List (List UInt8)) (bad : Bool) (wr : World) : Prop where
  bel : Below w.heap.size w wr
  rz : Iz wr r0
  rs : RS wr r q rem bad
  iv : wr.heap[x]? = some (.cells I.cells.toArray 24 (0, 0))
/-- The blocks' order. -/
structure PO (w : World) (r0 r q x : Nat) : Prop where
  a : w.heap.size ≤ r0
  b : r0 < q
  c : q < r
  d : r < x
theorem PS.read {w : World} {r0 r q x : Nat} {I : Ins} {rem rem' : List (List UInt8)} {bad bad' : Bool} {wr w2 : World} (s : PS w r0 r q x I rem bad wr) (p : PO w r0 r q x) (h : RS w2 r q rem' bad') (o : Only (fun k => k = r) wr w2) : PS w r0 r q x I rem' bad' w2 := by
  have := p.a
  have := p.b
  have := p.c
  have := p.d
  exact ⟨s.bel.trans (o.below s.bel.size (fun i hi e => by omega)), o.keeps s.rz (by omega), h, o.keeps s.iv (by omega)⟩
theorem PS.on {w : World} {r0 r q x : Nat} {I : Ins} {rem : List (List UInt8)} {bad : Bool} {wr w2 : World} (s : PS w r0 r q x I rem bad wr) (k : Below wr.heap.size wr w2) : PS w r0 r q x I rem bad w2 :=
  ⟨bel_next s.bel k, (k.block _ (blk_lt s.rz)).trans s.rz, s.rs.on (Only.of_below k (fun _ => False)) (fun h => h) (fun h => h), (k.block _ (blk_lt s.iv)).trans s.iv⟩
theorem PS.put {w : World} {r0 r q x : Nat} {I I' : Ins} {rem : List (List UInt8)} {bad : Bool} {wr : World} (s : PS w r0 r q x I rem bad wr) (p : PO w r0 r q x) (i : Nat) (v : Value) (h : I.cells.toArray.setIfInBounds i v = I'.cells.toArray) : PS w r0 r q x I' rem bad (wr.setCell ⟨x, i, none⟩ v) := by
  have := p.a
  have := p.b
  have := p.c
  have := p.d
  have o : Only (fun k => k = x) wr (wr.setCell ⟨x, i, none⟩ v) := (Only.refl _ wr).setCell _ _ (fun _ => rfl)
  exact ⟨s.bel.trans (o.below s.bel.size (fun i hi e => by omega)), o.keeps s.rz (by omega), s.rs.on o (by omega) (by omega), (blk_setCell s.iv v).trans (by rw [h])⟩
def LParsePost (l : List UInt8) (w : World) (x : Ending) (w' : World) : Prop := x = .returned (.tuple #[(ins l).1.val, .int .i64 (ins l).2]) ∧ Below w.heap.size w w'
theorem ins_err {l : List UInt8} (h : insE (wds l) = none) {w w' : World} (k : Below w.heap.size w w') : LParsePost l w (.returned (.tuple #[.agg #[.int .i64 0, .int .i64 0, .int .i64 0, .int .i64 0, .int .i64 0, .int .u32 0], .int .i64 3])) w' := by
  refine ⟨?_, k⟩
  unfold ins
  rw [h]
  rfl
theorem ins_ok {l : List UInt8} {e : Ins} (h : insE (wds l) = some e) {ck : Int} (hc : ck = e.chk) (h0 : ck = 0) {w w' : World} (k : Below w.heap.size w w') : LParsePost l w (.returned (.tuple #[e.val, .int .i64 0])) w' := by
  refine ⟨?_, k⟩
  unfold ins
  rw [h]
  show _ = Ending.returned (.tuple #[(ifin e).1.val, .int .i64 (ifin e).2])
  unfold ifin
  rw [if_pos (by rw [← hc]; exact h0)]
theorem ins_no {l : List UInt8} {e : Ins} (h : insE (wds l) = some e) {ck : Int} (hc : ck = e.chk) (h0 : ¬ ck = 0) {w w' : World} (k : Below w.heap.size w w') : LParsePost l w (.returned (.tuple #[.agg #[.int .i64 0, .int .i64 0, .int .i64 0, .int .i64 0, .int .i64 0, .int .u32 0], .int .i64 ck])) w' := by
  refine ⟨?_, k⟩
  unfold ins
  rw [h]
  show _ = Ending.returned (.tuple #[(ifin e).1.val, .int .i64 (ifin e).2])
  unfold ifin
  rw [if_neg (by rw [← hc]; exact h0), ← hc]
  rfl
theorem six_below {w wr : World} {r0 : Nat} (k : Below w.heap.size w wr) (h : w.heap.size ≤ r0) (a b c d e f : Value) : Below w.heap.size w ((((((wr.setCell ⟨r0, 0, none⟩ a).setCell ⟨r0, 1, none⟩ b).setCell ⟨r0, 2, none⟩ c).setCell ⟨r0, 3, none⟩ d).setCell ⟨r0, 4, none⟩ e).setCell ⟨r0, 5, none⟩ f) :=
  ((((((k.setCell h _).setCell h _).setCell h _).setCell h _).setCell h _).setCell h _)
theorem iop_lt (s : ByteArray) : (iop s : Int) ≤ 38 := by have := iop_le s; omega
set_option maxHeartbeats 8000000 in
theorem lparse_any (s : ByteArray) (hs : s.size ≤ 90000) (w : World) (g : Gl w) : Calls Tryd.prog 13 #[.string s] w (LParsePost s.data.toList w) := by
  have hz0 : Iz (w.alloc (.cells #[.int .i64 0, .int .i64 0, .int .i64 0, .int .i64 0, .int .i64 0, .int .u32 0] 24)) w.heap.size := heap_alloc_new w _
  have hB0 := (Below.refl w.heap.size w).alloc (Nat.le_refl _) (.cells #[.int .i64 0, .int .i64 0, .int .i64 0, .int .i64 0, .int .i64 0, .int .u32 0] 24)
  have hpos := wds_pos s.data.toList
  have hle := wds_le s.data.toList
  have hlen : s.data.toList.length ≤ 90000 := by simpa using hs
  have hwl : ∀ x ∈ wds s.data.toList, x.length ≤ 99000 := fun x hx => by have := wds_len s.data.toList x hx; omega
  have hsp := fun x gx => split_any s (by omega) x gx
  have HERR := Lib.hid (@ins_err s.data.toList)
  have HOKK := Lib.hid (fun (e : Ins) (h : insE (wds s.data.toList) = some e) (ck : Int) (hc : ck = e.chk) (h0 : ck = 0) (w w' : World) (k : Below w.heap.size w w') => ins_ok h hc h0 k)
  have HNO := Lib.hid (fun (e : Ins) (h : insE (wds s.data.toList) = some e) (ck : Int) (hc : ck = e.chk) (h0 : ¬ ck = 0) (w w' : World) (k : Below w.heap.size w w') => ins_no h hc h0 k)
  have HK := Lib.hid (insE_K (wds s.data.toList))
  obtain ⟨W, hW⟩ : ∃ W, W = wds s.data.toList := ⟨_, rfl⟩
  rw [← hW] at hpos hle hsp hwl HK HERR HOKK HNO
  clear hW
  obtain ⟨y, t, rfl⟩ : ∃ y t, W = y :: t := by
    cases W with
    | nil => exact absurd hpos (by decide)
    | cons y t => exact ⟨y, t, rfl⟩
  have HK : Hid (insE (y :: t) = if iop (txB y) = 0 then none else K0 (iop (txB y)) t) := HK
  go_enter Tryd.func13, Tryd.ntmps13
  go_wp2_with fail
  generalize w.alloc (.cells #[.int .i64 0, .int .i64 0, .int .i64 0, .int .i64 0, .int .i64 0, .int .u32 0] 24) = w1 at hz0 hB0 ⊢
  obtain ⟨r0, hr⟩ : ∃ r, r = w.heap.size := ⟨_, rfl⟩
  rw [← hr] at hz0 ⊢
  have hwr : w.heap.size ≤ r0 := by omega
  clear hr
  refine (hsp _ (g.on hB0)).mono ?_
  rintro x w2 ⟨rfl, hws, hk, hlt⟩
  have hz := (hk.block _ (blk_lt hz0)).trans hz0
  have hB := bel_next hB0 hk
  have hrq := blk_lt hz0
  obtain ⟨q, hq⟩ : ∃ q, q = w1.heap.size := ⟨_, rfl⟩
  rw [← hq] at hws hlt hrq ⊢
  clear hz0 hB0 hk hq hsp
  have hR : RS (w2.alloc (.cells #[.slice (some ⟨q, 0, none⟩) (y :: t).length (y :: t).length, .bool false] 66)) w2.heap.size q (y :: t) false :=
    ⟨⟨0, heap_alloc_new w2 _, fun i hi => by rw [Nat.zero_add, World.cell?_alloc_lt _ _ _ hlt]; exact hws.cell hi⟩, hlt, hwl, by omega⟩
  have hk3 := (Below.refl w2.heap.size w2).alloc (Nat.le_refl _) (.cells #[.slice (some ⟨q, 0, none⟩) (y :: t).length (y :: t).length, .bool false] 66)
  generalize (y :: t).length = nn at *
  go_upto_region 2 with fail
  generalize w2.alloc (.cells #[.slice (some ⟨q, 0, none⟩) nn nn, .bool false] 66) = w3 at hR hk3 ⊢
  have hz3 := (hk3.block _ (blk_lt hz)).trans hz
  have hB3 := bel_next hB hk3
  obtain ⟨r, hr⟩ : ∃ r, r = w2.heap.size := ⟨_, rfl⟩
  rw [← hr] at hR hlt ⊢
  have hr8 : 8 ≤ r := by have := hB.size; have := g.sz; omega
  have hrw : w.heap.size ≤ r := by have := hB.size; omega
  clear hz hB hk3 hr hws
  have hm := lnext_cons r q y t false w3 hR
  clear hR
  go_wp2_with fail
  refine hm.mono ?_
  rintro e w4 ⟨rfl, hR4, o4⟩
  have hz4 := o4.keeps hz3 (by omega)
  have hB4 := hB3.trans (o4.below hB3.size (fun i hi e => by omega))
  clear hz3 hB3 o4 hm
  go_wp2_with fail
  refine (iop_any _ _).mono ?_
  rintro e w5 ⟨rfl, hk⟩
  have hz5 := (hk.block _ (blk_lt hz4)).trans hz4
  have hB5 := bel_next hB4 hk
  have hR5 := hR4.on (Only.of_below hk (fun _ => False)) (fun h => h) (fun h => h)
  clear hz4 hB4 hk hR4
  have hol := iop_lt (txB y)
  have ho0 : (iop (txB y) = 0) ↔ (iop (txB y) : Int) = 0 := by omega
  have hou : (0 : Int) ≤ iop (txB y) := by omega
  generalize (iop (txB y) : Int) = o at hol ho0 hou HK ⊢
  have HO0 := Lib.hid ho0
  clear ho0
  have hP : PS w r0 r q w5.heap.size ⟨o, 0, 0, 0, 0, 0⟩ t false (w5.alloc (.cells #[.int .i64 o, .int .i64 0, .int .i64 0, .int .i64 0, .int .i64 0, .int .u32 0] 24)) := by
    have hk := (Below.refl w5.heap.size w5).alloc (Nat.le_refl _) (.cells #[.int .i64 o, .int .i64 0, .int .i64 0, .int .i64 0, .int .i64 0, .int .u32 0] 24)
    exact ⟨bel_next hB5 hk, (hk.block _ (blk_lt hz5)).trans hz5, hR5.on (Only.of_below hk (fun _ => False)) (fun h => h) (fun h => h), heap_alloc_new w5 _⟩
  have hO : PO w r0 r q w5.heap.size := ⟨hwr, hrq, hlt, by obtain ⟨oo, hb, _⟩ := hR5.ex; exact blk_lt hb⟩
  go_upto_region 3 with fail
  generalize w5.alloc (.cells #[.int .i64 o, .int .i64 0, .int .i64 0, .int .i64 0, .int .i64 0, .int .u32 0] 24) = w6 at hP ⊢
  generalize w5.heap.size = x at hP hO ⊢
  clear hz5 hB5 hR5
  have hu := fun x => iuses_any o x
  obtain ⟨hA, eA⟩ : ∃ h, h = uA o := ⟨_, rfl⟩
  obtain ⟨hB, eB⟩ : ∃ h, h = uB o := ⟨_, rfl⟩
  obtain ⟨cC, eC⟩ : ∃ h, h = uC o := ⟨_, rfl⟩
  obtain ⟨dD, eD⟩ : ∃ h, h = uD o := ⟨_, rfl⟩
  obtain ⟨kK, eK⟩ : ∃ h, h = uK o := ⟨_, rfl⟩
  rw [← eA, ← eB, ← eC, ← eD, ← eK] at hu
  have EA := Lib.hid eA
  have EB := Lib.hid eB
  have EC := Lib.hid eC
  have ED := Lib.hid eD
  have EK := Lib.hid eK
  clear eA eB eC eD eK
  obtain ⟨E, hE⟩ : ∃ E, E = K0 o t := ⟨_, rfl⟩
  have HS := Lib.hid (show Stg E (K0 o t) false from ⟨fun _ => hE, fun h => by cases h⟩)
  have HK2 := Lib.hid (show insE (y :: t) = if o = 0 then none else E by
    rw [HK.out, hE]
    by_cases h : o = 0
    · rw [if_pos h, if_pos (HO0.out.2 h)]
    · rw [if_neg h, if_neg (fun k => h (HO0.out.1 k))])
  clear hE HK HO0
  obtain ⟨c0, c1, c2, c3, c4, c5⟩ := ins_cells hP.iv
  simp only at c0 c1 c2 c3 c4 c5
  go_wp2_with fail
  refine (hu _).mono ?_
  rintro e w7 ⟨rfl, rfl⟩
  clear hu c0 c1 c2 c3 c4 c5
  obtain ⟨rem, bad, hP, HS⟩ : ∃ rem bad, PS w r0 r q x ⟨o, 0, 0, 0, 0, 0⟩ rem bad w6 ∧ Hid (Stg E (K0 o rem) bad) := ⟨t, false, hP, HS⟩
  go_upto_if 29 with fail
  go_cut [29] (fun _ wx => ∃ (v : Nat) (rem : List (List UInt8)) (bad : Bool), PS w r0 r q x ⟨o, v, 0, 0, 0, 0⟩ rem bad wx ∧ v < 8 ∧ Hid (Stg E (K1 o v rem) bad))
  case first =>
    cases hA
    · skip
      go_wp2_with fail
      go_meet
      exact ⟨0, rem, bad, hP, by decide, Lib.hid (HS.out.no EA.out.symm)⟩
    · skip
      have hm := lrreg_any r q rem bad _ hP.rs
      go_wp2_with fail
      refine hm.mono ?_
      rintro e wa ⟨v, rem', bad', rfl, hf⟩
      have hPa := hP.read hO hf.rs hf.on
      obtain ⟨c0, c1, c2, c3, c4, c5⟩ := ins_cells hPa.iv
      simp only at c0 c1 c2 c3 c4 c5
      have f1 := frozen_blk hPa.iv 1
      have hPb := hPa.put hO (I' := ⟨o, v, 0, 0, 0, 0⟩) 1 (.int .i64 (v : Nat)) rfl
      go_wp2_with fail
      go_meet
      exact ⟨v, rem', bad', hPb, hf.lt, Lib.hid (HS.out.yes EA.out.symm hf)⟩
  case rest =>
    obtain ⟨a, rem, bad, hP, ha, HS⟩ := hcut
    go_upto_if 33 with fail
    go_cut [33] (fun _ wx => ∃ (v : Nat) (rem : List (List UInt8)) (bad : Bool), PS w r0 r q x ⟨o, a, v, 0, 0, 0⟩ rem bad wx ∧ v < 8 ∧ Hid (Stg E (K2 o a v rem) bad))
    case first =>
      cases hB
      · skip
        go_wp2_with fail
        go_meet
        exact ⟨0, rem, bad, hP, by decide, Lib.hid (HS.out.no EB.out.symm)⟩
      · skip
        have hm := lrreg_any r q rem bad _ hP.rs
        go_wp2_with fail
        refine hm.mono ?_
        rintro e wa ⟨v, rem', bad', rfl, hf⟩
        have hPa := hP.read hO hf.rs hf.on
        obtain ⟨c0, c1, c2, c3, c4, c5⟩ := ins_cells hPa.iv
        simp only at c0 c1 c2 c3 c4 c5
        have f2 := frozen_blk hPa.iv 2
        have hPb := hPa.put hO (I' := ⟨o, a, v, 0, 0, 0⟩) 2 (.int .i64 (v : Nat)) rfl
        go_wp2_with fail
        go_meet
        exact ⟨v, rem', bad', hPb, hf.lt, Lib.hid (HS.out.yes EB.out.symm hf)⟩
    case rest =>
      obtain ⟨b, rem, bad, hP, hb, HS⟩ := hcut
      go_upto_if 37 with fail
      go_cut [8] (fun u wx => ∃ (v : Nat) (rem : List (List UInt8)) (bad : Bool), PS w r0 r q x ⟨o, a, b, 0, v, 0⟩ rem bad wx ∧ v < 3 ∧ Hid (Stg E (K3 o a b v rem) bad) ∧ u = .bool (hC o v))
      case first =>
        cases dD
        · skip
          go_wp2_with fail
          go_meet
          exact ⟨0, rem, bad, hP, by decide, Lib.hid (HS.out.no ED.out.symm), by rw [EC.out]; unfold hC; rw [← ED.out]; simp⟩
        · skip
          have hm := lrmode_any r q rem bad _ hP.rs
          go_wp2_with fail
          refine hm.mono ?_
          rintro e wa ⟨v, rem', bad', rfl, hf⟩
          have hPa := hP.read hO hf.rs hf.on
          obtain ⟨c0, c1, c2, c3, c4, c5⟩ := ins_cells hPa.iv
          simp only at c0 c1 c2 c3 c4 c5
          have f4 := frozen_blk hPa.iv 4
          have hPb := hPa.put hO (I' := ⟨o, a, b, 0, v, 0⟩) 4 (.int .i64 (v : Nat)) rfl
          have HCV := Lib.hid (show Value.bool ((v : Int) == 2) = .bool (hC o v) by unfold hC; rw [← ED.out, uD_uC ED.out.symm]; rfl)
          have d4 := (ins_cells hPb.iv).2.2.2.2.1
          simp only at d4
          go_wp2_with fail
          go_meet
          exact ⟨v, rem', bad', hPb, hf.lt, Lib.hid (HS.out.yes ED.out.symm hf), HCV.out⟩
      case rest =>
        obtain ⟨d, rem, bad, hP, hd, HS, rfl⟩ := hcut
        obtain ⟨H, eH⟩ : ∃ h, h = hC o d := ⟨_, rfl⟩
        rw [← eH]
        have EH := Lib.hid eH
        clear eH
        go_upto_if 44 with fail
        go_cut [44] (fun _ wx => ∃ (v : Nat) (rem : List (List UInt8)) (bad : Bool), PS w r0 r q x ⟨o, a, b, v, d, 0⟩ rem bad wx ∧ v < 8 ∧ Hid (Stg E (K4 o a b d v rem) bad))
        case first =>
          cases H
          · skip
            go_wp2_with fail
            go_meet
            exact ⟨0, rem, bad, hP, by decide, Lib.hid (HS.out.no EH.out.symm)⟩
          · skip
            have hm := lrreg_any r q rem bad _ hP.rs
            go_wp2_with fail
            refine hm.mono ?_
            rintro e wa ⟨v, rem', bad', rfl, hf⟩
            have hPa := hP.read hO hf.rs hf.on
            obtain ⟨c0, c1, c2, c3, c4, c5⟩ := ins_cells hPa.iv
            simp only at c0 c1 c2 c3 c4 c5
            have f3 := frozen_blk hPa.iv 3
            have hPb := hPa.put hO (I' := ⟨o, a, b, v, d, 0⟩) 3 (.int .i64 (v : Nat)) rfl
            go_wp2_with fail
            go_meet
            exact ⟨v, rem', bad', hPb, hf.lt, Lib.hid (HS.out.yes EH.out.symm hf)⟩
        case rest =>
          obtain ⟨c, rem, bad, hP, hc, HS⟩ := hcut
          go_upto_if 48 with fail
          go_cut [48] (fun _ wx => ∃ (v : Nat) (rem : List (List UInt8)) (bad : Bool), PS w r0 r q x ⟨o, a, b, c, d, v⟩ rem bad wx ∧ v < 4294967296 ∧ Hid (Stg E (if rem = [] then some ⟨o, a, b, c, d, v⟩ else none) bad))
          case first =>
            cases kK
            · skip
              go_wp2_with fail
              go_meet
              exact ⟨0, rem, bad, hP, by decide, Lib.hid (HS.out.no EK.out.symm)⟩
            · skip
              have hm := lrnum_any r q rem bad _ hP.rs (g.on hP.bel) hr8
              go_wp2_with fail
              refine hm.mono ?_
              rintro e wa ⟨v, rem', bad', rfl, hf⟩
              have hPa := hP.read hO hf.rs hf.on
              obtain ⟨c0, c1, c2, c3, c4, c5⟩ := ins_cells hPa.iv
              simp only at c0 c1 c2 c3 c4 c5
              have f5 := frozen_blk hPa.iv 5
              have hPb := hPa.put hO (I' := ⟨o, a, b, c, d, v⟩) 5 (.int .u32 (v : Nat)) rfl
              go_wp2_with fail
              go_meet
              exact ⟨v, rem', bad', hPb, hf.lt, Lib.hid (HS.out.yes EK.out.symm hf)⟩
          case rest =>
            obtain ⟨k, rem, bad, hP, hk, HS⟩ := hcut
            obtain ⟨c0, c1, c2, c3, c4, c5⟩ := ins_cells hP.iv
            simp only at c0 c1 c2 c3 c4 c5
            obtain ⟨⟨y0, y1, y2, y3, y4, y5⟩, f0, f1, f2, f3, f4, f5⟩ := hP.rz.cells
            obtain ⟨o9, hb9, _⟩ := hP.rs.ex
            have z0 : wc.cell? ⟨r, 0, none⟩ = some (.slice (some ⟨q, o9, none⟩) rem.length rem.length) := by rw [cell_blk hb9]; rfl
            have z1 : wc.cell? ⟨r, 1, none⟩ = some (.bool bad) := by rw [cell_blk hb9]; rfl
            clear hb9
            have H6 := Lib.hid (fun (wz : World) (k : Below w.heap.size w wz) => six_below k hwr)
            by_cases ho : o = 0
            · have HN := Lib.hid (show insE (y :: t) = none by rw [HK2.out, if_pos ho])
              have do0 : (o == 0) = true := by rw [ho]; rfl
              clear ho
              go_wp2_with fail
              exact bodyPost_ret (v := .tuple #[.agg #[.int .i64 0, .int .i64 0, .int .i64 0, .int .i64 0, .int .i64 0, .int .u32 0], .int .i64 3]) (by simp [results, Tryd.results13, go_sem, y0, y1, y2, y3, y4, y5]) rfl (HERR.out HN.out (six_below hP.bel hwr _ _ _ _ _ _))
            · have do0 : (o == 0) = false := beqF ho
              have HIE := Lib.hid (show insE (y :: t) = E by rw [HK2.out, if_neg ho])
              clear ho
              rcases bT bad with rfl | rfl
              · have HN := Lib.hid (show insE (y :: t) = none by rw [HIE.out, HS.out.2 rfl])
                go_wp2_with fail
                exact bodyPost_ret (v := .tuple #[.agg #[.int .i64 0, .int .i64 0, .int .i64 0, .int .i64 0, .int .i64 0, .int .u32 0], .int .i64 3]) (by simp [results, Tryd.results13, go_sem, y0, y1, y2, y3, y4, y5]) rfl (HERR.out HN.out (six_below hP.bel hwr _ _ _ _ _ _))
              · by_cases hrl : 0 < rem.length
                · have HN := Lib.hid (show insE (y :: t) = none by rw [HIE.out, HS.out.1 rfl, if_neg (by intro e; rw [e] at hrl; exact absurd hrl (by decide))])
                  have hrI : (0 : Int) < rem.length := by omega
                  clear hrl
                  go_wp2_with fail
                  exact bodyPost_ret (v := .tuple #[.agg #[.int .i64 0, .int .i64 0, .int .i64 0, .int .i64 0, .int .i64 0, .int .u32 0], .int .i64 3]) (by simp [results, Tryd.results13, go_sem, y0, y1, y2, y3, y4, y5]) rfl (HERR.out HN.out (six_below hP.bel hwr _ _ _ _ _ _))
                · have HN := Lib.hid (show insE (y :: t) = some ⟨o, a, b, c, d, k⟩ by rw [HIE.out, HS.out.1 rfl, if_pos (List.eq_nil_of_length_eq_zero (by omega))])
                  have hrI : ¬ (0 : Int) < rem.length := by omega
                  clear hrl
                  have hf := fun x => form_any ⟨o, a, b, c, d, k⟩ ⟨⟨by show _ ≤ o; omega, by show o ≤ _; omega⟩, ⟨by show _ ≤ (a : Int); omega, by show (a : Int) ≤ _; omega⟩, ⟨by show _ ≤ (b : Int); omega, by show (b : Int) ≤ _; omega⟩, ⟨by show _ ≤ (c : Int); omega, by show (c : Int) ≤ _; omega⟩, ⟨by show _ ≤ (d : Int); omega, by show (d : Int) ≤ _; omega⟩, hk⟩ x
                  obtain ⟨ck, hcc⟩ : ∃ ck, ck = (Ins.mk o a b c d k).chk := ⟨_, rfl⟩
                  rw [← hcc] at hf
                  simp only [Ins.val] at hf
                  have HC := Lib.hid hcc
                  clear hcc
                  go_wp2_with fail
                  refine (hf _).mono ?_
                  rintro e wz ⟨rfl, hkz⟩
                  have hPz := hP.on hkz
                  clear hkz c0 c1 c2 c3 c4 c5 y0 y1 y2 y3 y4 y5 f0 f1 f2 f3 f4 f5 z0 z1 hP
                  obtain ⟨c0, c1, c2, c3, c4, c5⟩ := ins_cells hPz.iv
                  simp only at c0 c1 c2 c3 c4 c5
                  obtain ⟨⟨y0, y1, y2, y3, y4, y5⟩, f0, f1, f2, f3, f4, f5⟩ := hPz.rz.cells
                  by_cases h0 : ck = 0
                  · have HC0 := Lib.hid h0
                    have d0 : (ck != 0) = false := by rw [h0]; rfl
                    clear h0
                    go_wp2_with fail
                    exact bodyPost_ret (v := .tuple #[.agg #[.int .i64 o, .int .i64 a, .int .i64 b, .int .i64 c, .int .i64 d, .int .u32 k], .int .i64 0]) (by simp [results, Tryd.results13, go_sem, y0, y1, y2, y3, y4, y5]) rfl (HOKK.out _ HN.out _ HC.out HC0.out _ _ (six_below hPz.bel hwr _ _ _ _ _ _))
                  · have d0 : (ck != 0) = true := by rw [bne_iff_ne]; exact h0
                    have HC0 := Lib.hid h0
                    clear h0
                    go_wp2_with fail
                    exact bodyPost_ret (v := .tuple #[.agg #[.int .i64 0, .int .i64 0, .int .i64 0, .int .i64 0, .int .i64 0, .int .u32 0], .int .i64 ck]) (by simp [results, Tryd.results13, go_sem, y0, y1, y2, y3, y4, y5]) rfl (HNO.out _ HN.out _ HC.out HC0.out _ _ (six_below hPz.bel hwr _ _ _ _ _ _))
end Go.Proofs.YtghfkpddkmaflaaDoor
