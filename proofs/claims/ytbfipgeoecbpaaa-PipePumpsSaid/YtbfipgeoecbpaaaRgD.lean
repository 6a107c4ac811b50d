/- Contract of ring.Drain. No condition but those that it names. -/
import Derived.Test.YtbfipgeoecbpaaaRgC
namespace Go.Proofs.Ytbfipgeoecbpaaa
open Go.RowKit
set_option linter.unusedVariables false
set_option linter.unusedSimpArgs false
set_option maxRecDepth 20000
/-- A ring's memory, nothing said of its sum. -/
structure DrM (w : World) (b : Nat) (X : Rg) (R : Nat → UInt8) (l : List Nat) : Prop where
  me : w.heap[b]? = some (.cells X.cells 100 (0, 0))
  room : IsRoom w X.rb X.cap R
  sz : SzIn w X.sv l
  n1 : X.sv.ownBlock ≠ some b
  n2 : X.sv.ownBlock ≠ some X.rb
  n3 : b ≠ X.rb
theorem RgSt.drm {w : World} {b : Nat} {X : Rg} {R : Nat → UInt8} {l : List Nat} (h : RgSt w b X R l) : DrM w b X R l := ⟨h.me, h.room, h.sz, h.sv_b, h.sv_rb, h.b_rb⟩
section
variable {w w' : World} {b : Nat} {X : Rg} {R : Nat → UInt8} {l : List Nat}
theorem DrM.cells (h : DrM w b X R l) : w.cell? ⟨b, 0, none⟩ = some (.slice (some ⟨X.rb, 0, none⟩) X.cap X.cap) ∧ w.cell? ⟨b, 1, none⟩ = some (.int .i64 X.pol) ∧ w.cell? ⟨b, 2, none⟩ = some (.int .i64 X.hd) ∧ w.cell? ⟨b, 3, none⟩ = some X.sv ∧ w.cell? ⟨b, 4, none⟩ = some (.int .i64 X.used) ∧ w.cell? ⟨b, 5, none⟩ = some (.bool X.bg) ∧ w.cell? ⟨b, 6, none⟩ = some (.int .u64 X.lo) := by
  refine ⟨?_, ?_, ?_, ?_, ?_, ?_, ?_⟩ <;> (rw [cell_blk h.me]; rfl)
theorem DrM.frozen (h : DrM w b X R l) (i : Nat) : w.frozen? ⟨b, i, none⟩ = false := frozen_blk h.me i
theorem DrM.keep (h : DrM w b X R l) (k : Below w.heap.size w w') : DrM w' b X R l :=
  { h with
    me := (k.block _ (blk_lt h.me)).trans h.me
    room := h.room.keep (k.block _ h.room.lt)
    sz := h.sz.keep fun g hg => k.block _ (h.sz.lt hg) }
theorem DrM.room_set (h : DrM w b X R l) (i : Nat) (v : Value) : IsRoom (w.setCell ⟨b, i, none⟩ v) X.rb X.cap R := h.room.keep (Below.heap_setCell _ _ _ _ h.n3.symm)
theorem DrM.sz_set (h : DrM w b X R l) (i : Nat) (v : Value) : SzIn (w.setCell ⟨b, i, none⟩ v) X.sv l := h.sz.keep fun g hg => Below.heap_setCell _ _ _ _ (fun e => h.n1 (by rw [hg, show b = g from Eq.symm e]))
theorem DrM.setHd (h : DrM w b X R l) (u : Nat) : DrM (w.setCell ⟨b, 2, none⟩ (.int .i64 u)) b { X with hd := u } R l :=
  { h with me := (blk_setCell h.me (i := 2) _).trans (by simp [Rg.cells]), room := h.room_set _ _, sz := h.sz_set _ _ }
theorem DrM.setUsed (h : DrM w b X R l) (u : Nat) : DrM (w.setCell ⟨b, 4, none⟩ (.int .i64 u)) b { X with used := u } R l :=
  { h with me := (blk_setCell h.me (i := 4) _).trans (by simp [Rg.cells]), room := h.room_set _ _, sz := h.sz_set _ _ }
theorem DrM.setBg (h : DrM w b X R l) (u : Bool) : DrM (w.setCell ⟨b, 5, none⟩ (.bool u)) b { X with bg := u } R l :=
  { h with me := (blk_setCell h.me (i := 5) _).trans (by simp [Rg.cells]), room := h.room_set _ _, sz := h.sz_set _ _ }
theorem DrM.setLo (h : DrM w b X R l) (u : Nat) : DrM (w.setCell ⟨b, 6, none⟩ (.int .u64 u)) b { X with lo := u } R l :=
  { h with me := (blk_setCell h.me (i := 6) _).trans (by simp [Rg.cells]), room := h.room_set _ _, sz := h.sz_set _ _ }
theorem DrM.setSv (h : DrM w b X R l) (v : Value) (l' : List Nat) (hs : SzIn w v l') (hv : v.ownBlock = X.sv.ownBlock) : DrM (w.setCell ⟨b, 3, none⟩ v) b { X with sv := v } R l' :=
  { me := (blk_setCell h.me (i := 3) _).trans (by simp [Rg.cells]), room := h.room_set _ _
    sz := hs.keep fun g hg => Below.heap_setCell _ _ _ _ (fun e => h.n1 (by rw [← hv, hg, show b = g from Eq.symm e]))
    n1 := by rw [show ({ X with sv := v } : Rg).sv = v from rfl, hv]; exact h.n1
    n2 := by rw [show ({ X with sv := v } : Rg).sv = v from rfl, hv]; exact h.n2
    n3 := h.n3 }
theorem DrM.setHead {x : Nat} {t : List Nat} {g off n c : Nat} (h : DrM w b X R (x :: t)) (hv : X.sv = .slice (some ⟨g, off, none⟩) n c) (y : Nat) : DrM (w.setCell ⟨g, off, none⟩ (.int .i64 y)) b X R (y :: t) := by
  have hg : X.sv.ownBlock = some g := by rw [hv]; rfl
  have m1 : b ≠ g := fun e => h.n1 (by rw [hg, e])
  have m2 : X.rb ≠ g := fun e => h.n2 (by rw [hg, e])
  refine { h with me := blk_setCell_other (p := ⟨g, off, none⟩) h.me m1 _, room := h.room.keep (Below.heap_setCell _ _ _ _ m2), sz := ?_ }
  have := h.sz
  rw [hv] at this ⊢
  exact this.head y
end
/-- The first size is left out. -/
theorem SzIn.tail' {w : World} {x : Nat} {l : List Nat} {g off n c : Nat} (h : SzIn w (.slice (some ⟨g, off, none⟩) n c) (x :: l)) : n = l.length + 1 ∧ 1 ≤ c ∧ n ≤ c ∧ SzIn w (.slice (some ⟨g, if c = 1 then off else off + 1, none⟩) (n - 1) (c - 1)) l := by
  have ht := h.tail
  obtain ⟨g', off', c', C, e, h2, h3, h4, h5, h6, h7⟩ := h.at0
  simp only [Value.slice.injEq, Option.some.injEq, Addr.mk.injEq, and_true] at e
  obtain ⟨⟨rfl, rfl⟩, rfl, rfl⟩ := e
  refine ⟨rfl, by omega, h3, ?_⟩
  by_cases hc : c = 1
  · rw [if_pos hc]
    subst hc
    obtain rfl : l = [] := List.eq_nil_of_length_eq_zero (by omega)
    exact .inr ⟨g, off, 0, C, rfl, h2, Nat.le_refl _, by omega, by omega, fun j hj => absurd hj (Nat.not_lt_zero _)⟩
  · rw [if_neg hc]
    exact ht
def DrR (w : World) (b : Nat) (X : Rg) (R : Nat → UInt8) (l : List Nat) (n : Nat) (g : Nat) (i : Value) (wr : World) : Prop :=
  ∃ (n' : Nat) (l' : List Nat) (bg' : Bool) (v' : Value), i = .int .i64 n' ∧ DrM wr b { X with hd := (X.hd + n) % X.cap, used := X.used - n, sv := v', bg := bg' } R l' ∧ v'.ownBlock = X.sv.ownBlock ∧ (∀ x ∈ l', 1 ≤ x) ∧ l'.sum = X.used - n + n' ∧ fin l' n' bg' = fin l n X.bg ∧ Only (rgS b X) w wr ∧ n' ≤ g ∧ n' ≤ n
/-- Behind a drain of n bytes. -/
def DrPost (w : World) (b : Nat) (X : Rg) (R : Nat → UInt8) (l : List Nat) (n : Nat) (x : Ending) (w' : World) : Prop :=
  x = .returned (.string ⟨(cont R X.cap X.hd n).toArray⟩) ∧ (∃ v', RgSt w' b { X with hd := (X.hd + n) % X.cap, used := X.used - n, sv := v', bg := (fin l n X.bg).2 } R (fin l n X.bg).1 ∧ v'.ownBlock = X.sv.ownBlock) ∧ Only (rgS b X) w w'
set_option maxHeartbeats 2000000 in
theorem rdrain_n {w : World} {b : Nat} {X : Rg} {R : Nat → UInt8} {l : List Nat} (h : RgSt w b X R l) (m : Int) (hm0 : -9223372036854775808 ≤ m) (hm1 : m ≤ 9223372036854775807) (n : Nat) (hn : (n : Int) = min (max m 0) X.used) :
    Calls Try.prog 25 #[.pointer (some ⟨b, 0, none⟩), .int .i64 m] w (DrPost w b X R l n) := by
  have hcap := h.cap
  have hus := h.used
  have hhd := h.hd
  have hlo := h.lo
  have hsum := h.sum
  have hpos := h.pos
  have hnu : n ≤ X.used := by omega
  have hpk := peek_any h 0 n (by omega) (by omega)
  obtain ⟨y0, y1, y2, y3, y4, y5, y6⟩ := h.cells
  go_enter Try.func25, Try.ntmps25
  go_upto_region 4 with fail
  rw [← hn]
  have HN := Lib.hid hn
  clear hn y0 y1 y2 y3 y4 y5 y6
  go_upto_region 5 with (go_at_call 58; (refine hpk.mono ?_); rintro x w2 ⟨rfl, hk2⟩)
  have M2 := h.drm.keep hk2
  have on2 : Only (rgS b X) w w2 := Only.of_below hk2 _
  clear hpk hk2
  obtain ⟨m, hm⟩ : ∃ m, m = (X.hd + n) % X.cap := ⟨_, rfl⟩
  have hml : m < X.cap := by rw [hm]; exact Nat.mod_lt _ (by omega)
  have hmi : ((X.hd : Int) + n) % (X.cap : Int) = (m : Int) := by
    have e : ((X.hd + n : Nat) : Int) = (X.hd : Int) + n := by omega
    rw [hm, Int.natCast_emod, e]
  have HM := Lib.hid hm
  clear hm
  obtain ⟨y0, y1, y2, y3, y4, y5, y6⟩ := M2.cells
  have hz2 := M2.frozen 2
  go_region
  clear hmi
  have M3 := (M2.setHd m).keep ((Below.refl (w2.setCell ⟨b, 2, none⟩ (.int .i64 (m : Int))).heap.size _).drew)
  have on3 := (on2.setCell ⟨b, 2, none⟩ (.int .i64 (m : Int)) fun _ => .inl rfl).drew
  go_upto_region 6 with fail
  clear y0 y1 y2 y3 y4 y5 y6 hz2 M2 on2
  generalize (w2.setCell ⟨b, 2, none⟩ (.int .i64 (m : Int))).drew = w3 at *
  obtain ⟨z0, z1, z2, z3, z4, z5, z6⟩ := M3.cells
  have hz4 := M3.frozen 4
  have M4 := M3.setUsed (X.used - n)
  have on4 := on3.setCell ⟨b, 4, none⟩ (.int .i64 ((X.used - n : Nat) : Int)) fun _ => .inl rfl
  obtain ⟨u, hu⟩ : ∃ u, u = X.used - n := ⟨_, rfl⟩
  have hui : (X.used : Int) - n = u := by omega
  rw [← hu] at M4 on4
  have HU := Lib.hid hu
  clear hu
  go_upto_block 0 with fail
  clear z0 z1 z2 z3 z4 z5 z6 hz4 M3 on3 hui
  generalize w3.setCell ⟨b, 4, none⟩ (.int .i64 (u : Int)) = w4 at *
  dsimp only at M4
  have hle : n ≤ l.sum := by omega
  have HS := Lib.hid (And.intro hsum hlo)
  clear hsum hlo
  go_wp2_with fail
  go_loopg [5] (n) (fun g i wr => DrR w b X R l n g i wr)
  case atStart =>
    rw [HM.out, HU.out] at M4
    exact ⟨n, l, X.bg, X.sv, rfl, M4, rfl, hpos, by have := HS.out; omega, rfl, on4, Nat.le_refl _, Nat.le_refl _⟩
  case round =>
    clear M4 on4 hpos
    obtain ⟨n', l', bg', v', rfl, M, hvb, hpos, hsum, hfin, on, hg, hnn⟩ := hrel
    have HF := Lib.hid (And.intro hfin (And.intro hvb hsum))
    clear hfin hvb
    by_cases h0 : n' = 0
    · subst h0
      clear hsum
      go_wp2_with fail
      go_ret
      obtain ⟨hf, hvb, hs⟩ := HF.out
      rw [fin_zero] at hf
      refine ⟨rfl, ⟨v', ?_, hvb⟩, on⟩
      rw [← hf]
      exact { me := M.me, room := M.room, sz := M.sz, hd := Nat.mod_lt _ (by omega), cap := hcap, used := (by show X.used - n ≤ X.cap; omega), sum := (by show l'.sum = X.used - n; omega), pos := hpos, lo := HS.out.2 }
    · obtain ⟨x, t, rfl⟩ : ∃ x t, l' = x :: t := by
        match l', hsum with
        | [], hs => simp at hs; omega
        | x :: t, _ => exact ⟨x, t, rfl⟩
      have hxb : x ≤ 1048576 := by rw [List.sum_cons] at hsum; omega
      clear hsum
      have hx1 := hpos x (by simp)
      obtain ⟨g, off, c, C, rfl, hb1, hb2, hb3, hb4, hb5, hb6⟩ := M.sz.at0
      have hC : wr.cell? ⟨g, off, none⟩ = some (.int .i64 x) := by rw [cell_blk hb1]; exact hb5
      have hCz : wr.frozen? ⟨g, off, none⟩ = false := frozen_blk hb1 off
      clear hb1 hb3 hb5 hb6
      obtain ⟨y0, y1, y2, y3, y4, y5, y6⟩ := M.cells
      dsimp only at y0 y1 y2 y3 y4 y5 y6
      by_cases hlt : n' < x
      · have hmin : min (n' : Int) (x : Int) = (n' : Int) := by omega
        obtain ⟨y, hy⟩ : ∃ y, y = x - n' := ⟨_, rfl⟩
        have hyi : (x : Int) - (n' : Int) = (y : Int) := by omega
        have hy1 : 0 < y := by omega
        have hyb : y ≤ 1048576 := by omega
        have HY := Lib.hid hy
        clear hy
        go_upto_region 10 with fail
        have M5 := M.setHead (g := g) (off := off) rfl y
        have on5 := on.setCell ⟨g, off, none⟩ (.int .i64 (y : Int)) fun _ => .inr (.inr (by rw [← HF.out.2.1]; rfl))
        clear y0 y1 y2 y3 y4 y5 y6 hC hCz M on
        generalize wr.setCell ⟨g, off, none⟩ (.int .i64 (y : Int)) = w5 at *
        obtain ⟨y0, y1, y2, y3, y4, y5, y6⟩ := M5.cells
        dsimp only at y0 y1 y2 y3 y4 y5 y6
        obtain ⟨_, _, _, C5, e5, hb1, hb2, hb3, hb4, hb5, hb6⟩ := M5.sz.at0
        dsimp only at e5
        simp only [Value.slice.injEq, Option.some.injEq, Addr.mk.injEq, and_true] at e5
        obtain ⟨⟨rfl, rfl⟩, _, rfl⟩ := e5
        have hC : w5.cell? ⟨g, off, none⟩ = some (.int .i64 y) := by rw [cell_blk hb1]; exact hb5
        clear hb1 hb3 hb5 hb6 hb2 hb4
        have hz5 := M5.frozen 5
        go_upto_region 11 with fail
        have M6 := M5.setBg true
        have on6 := on5.setCell ⟨b, 5, none⟩ (.bool true) fun _ => .inl rfl
        clear y0 y1 y2 y3 y4 y5 y6 hC hz5 M5 on5
        generalize w5.setCell ⟨b, 5, none⟩ (.bool true) = w6 at *
        obtain ⟨y0, y1, y2, y3, y4, y5, y6⟩ := M6.cells
        dsimp only at y5
        clear y0 y1 y2 y3 y4 y6
        go_wp2_with fail
        obtain ⟨gg, rfl⟩ : ∃ gg, gk = gg + 1 := ⟨gk - 1, by omega⟩
        go_roundg gg
        case measure => omega
        case rel =>
          obtain ⟨hf, hvb, hs⟩ := HF.out
          refine ⟨0, y :: t, true, _, rfl, M6, hvb, ?_, ?_, ?_, on6, Nat.zero_le _, Nat.zero_le _⟩
          · intro z hz
            rcases List.mem_cons.1 hz with rfl | hz
            · exact hy1
            · exact hpos z (by simp [hz])
          · have := HY.out
            rw [List.sum_cons] at hs ⊢
            omega
          · rw [← hf, fin_zero, fin_lt _ _ (by omega) hlt, HY.out]
      · have hmin : min (n' : Int) (x : Int) = (x : Int) := by omega
        obtain ⟨q, hq⟩ : ∃ q, q = n' - x := ⟨_, rfl⟩
        have hqi : (n' : Int) - (x : Int) = (q : Int) := by omega
        have hqb : q ≤ 1048576 := by omega
        have HQ := Lib.hid hq
        clear hq
        go_upto_region 10 with fail
        have M5 : DrM (wr.setCell ⟨g, off, none⟩ (.int .i64 0)) b _ R (0 :: t) := M.setHead (g := g) (off := off) rfl 0
        have on5 := on.setCell ⟨g, off, none⟩ (.int .i64 0) fun _ => .inr (.inr (by rw [← HF.out.2.1]; rfl))
        clear y0 y1 y2 y3 y4 y5 y6 hC hCz M on
        generalize wr.setCell ⟨g, off, none⟩ (.int .i64 0) = w5 at *
        obtain ⟨y0, y1, y2, y3, y4, y5, y6⟩ := M5.cells
        dsimp only at y0 y1 y2 y3 y4 y5 y6
        obtain ⟨_, _, _, C5, e5, hb1, hb2, hb3, hb4, hb5, hb6⟩ := M5.sz.at0
        dsimp only at e5
        simp only [Value.slice.injEq, Option.some.injEq, Addr.mk.injEq, and_true] at e5
        obtain ⟨⟨rfl, rfl⟩, _, rfl⟩ := e5
        have hC : w5.cell? ⟨g, off, none⟩ = some (.int .i64 0) := by rw [cell_blk hb1]; exact hb5
        clear hb1 hb3 hb5 hb6 hb2 hb4
        have hz5 := M5.frozen 5
        go_upto_region 11 with fail
        have M6 := M5.setBg false
        have on6 := on5.setCell ⟨b, 5, none⟩ (.bool false) fun _ => .inl rfl
        clear y0 y1 y2 y3 y4 y5 y6 hC hz5 M5 on5
        generalize w5.setCell ⟨b, 5, none⟩ (.bool false) = w6 at *
        obtain ⟨y0, y1, y2, y3, y4, y5, y6⟩ := M6.cells
        dsimp only at y3 y5
        clear y0 y1 y2 y4 y6
        have hz6 := M6.frozen 3
        obtain ⟨_, hc1, hnc, htl⟩ := SzIn.tail' M6.sz
        have M7 := M6.setSv _ t htl (by rfl)
        rw [Nat.add_sub_cancel] at M7
        have on7 := on6.setCell ⟨b, 3, none⟩ (.slice (some ⟨g, if c = 1 then off else off + 1, none⟩) t.length (c - 1)) fun _ => .inl rfl
        unfold maxLen at hb4
        by_cases hcc : c = 1
        all_goals (first | rw [if_pos hcc] at M7 on7 | rw [if_neg hcc] at M7 on7)
        all_goals
          clear htl M6 on6
          go_wp2_with fail
          obtain ⟨gg, rfl⟩ : ∃ gg, gk = gg + 1 := ⟨gk - 1, by omega⟩
          go_roundg gg
          case measure => omega
          case rel =>
            obtain ⟨hf, hvb, hs⟩ := HF.out
            have := HQ.out
            first
            | refine ⟨q, t, false, _, rfl, M7, hvb, fun z hz => hpos z (by simp [hz]), ?_, ?_, on7, by omega, by omega⟩
            | (subst hcc; refine ⟨q, t, false, _, rfl, M7, hvb, fun z hz => hpos z (by simp [hz]), ?_, ?_, on7, by omega, by omega⟩)
            · rw [List.sum_cons] at hs
              omega
            · rw [← hf, fin_ge _ _ (by omega) (by omega), HQ.out]
/-- Drain, by what it was asked. -/
theorem rdrain_any {w : World} {b : Nat} {X : Rg} {R : Nat → UInt8} {l : List Nat} (h : RgSt w b X R l) (m : Int) (hm0 : -9223372036854775808 ≤ m) (hm1 : m ≤ 9223372036854775807) :
    Calls Try.prog 25 #[.pointer (some ⟨b, 0, none⟩), .int .i64 m] w (DrPost w b X R l (min m.toNat X.used)) := by
  refine rdrain_n h m hm0 hm1 _ ?_
  omega
end Go.Proofs.Ytbfipgeoecbpaaa
