/- Contracts of package ring where the oldest are lost and none is begun: rest, lose, Put. No condition but those that each names. -/
import Derived.Test.YtbfipgeoecbpaaaRgS
namespace Go.Proofs.Ytbfipgeoecbpaaa
open Go.RowKit
set_option linter.unusedVariables false
set_option linter.unusedSimpArgs false
set_option maxRecDepth 20000
theorem rrest_no {w : World} {b : Nat} {X : Rg} {R : Nat → UInt8} {l : List Nat} (h : RgSt w b X R l) (hb : X.bg = false) : Calls Try.prog 65 #[.pointer (some ⟨b, 0, none⟩)] w fun x w' => x = .returned (.int .i64 0) ∧ w = w' := by
  obtain ⟨y0, y1, y2, y3, y4, y5, y6⟩ := h.cells
  rw [hb] at y5
  go_enter Try.func65, Try.ntmps65
  go_wp2_with fail
  go_ret
  exact ⟨rfl, rfl⟩
theorem RgSt.toHd {w : World} {b : Nat} {X : Rg} {R : Nat → UInt8} {l : List Nat} (h : RgSt w b X R l) (u : Nat) (hu : u < X.cap) : RgSt (w.setCell ⟨b, 2, none⟩ (.int .i64 u)) b { X with hd := u } R l :=
  { h with me := (h.drm.setHd u).me, room := (h.drm.setHd u).room, sz := (h.drm.setHd u).sz, hd := hu }
theorem step_app_run {P : Program} {w : World} {ops : Array Oper} {o : Oper} {a : Act} {K : Act → World → Prop} {Q : Exit → Act → World → Prop} {E : Prop}
    (hg : o.guard = none) (s x : Operand) (t : TypeId) (hop : o.op = Op.call { callee := Callee.builtin Builtin.append, args := #[s, x], argTypes := #[t, t] })
    (v xv : Value) (hs : a.eval s = v) (hx : a.eval x = xv) (v' : Value) (w' : World) (hrun : (Builtin.append_ #[t, t] o.type #[v, xv]).run P w = .ok v' w')
    (hK : K (a.put o.dst v') w') : if Region.wanted o (yielded ops a.tmps) = true then Oper.wp P o a w K Q else E := by
  have hw : Region.wanted o (yielded ops a.tmps) = true := by simp [Region.wanted, hg]
  rw [if_pos hw]
  unfold Oper.wp
  simp [execOp, hop, resolve, invoke, builtin, hs, hx, hrun, Result.andThen]
  exact hK
/-- The first size is cut out, the others move down. -/
theorem SzIn.cut {w : World} {x : Nat} {t : List Nat} {g off n c : Nat} (h : SzIn w (.slice (some ⟨g, off, none⟩) n c) (x :: t)) (ty : TypeId) (a : Addr) (c2 : Nat) (ha : t ≠ [] → a = ⟨g, off + 1, none⟩) :
    ∃ w', (Builtin.append_ #[98, 98] ty #[.slice (some ⟨g, off, none⟩) 0 c, .slice (some a) t.length c2]).run Try.prog w = .ok (.slice (some ⟨g, off, none⟩) t.length c) w' ∧ SzIn w' (.slice (some ⟨g, off, none⟩) t.length c) t ∧ w.grownBy w' (some g) := by
  obtain ⟨i0, hi, hz0, hz1, hz2⟩ := int_info
  obtain ⟨g', off', c', C, e, h2, h3, h4, h5, h6, h7⟩ := h.at0
  simp only [Value.slice.injEq, Option.some.injEq, Addr.mk.injEq, and_true] at e
  obtain ⟨⟨rfl, rfl⟩, rfl, rfl⟩ := e
  have hnews : ∀ (j : Nat) (u : Value), (t.map fun y : Nat => Value.int .i64 y)[j]? = some u → w.cell? (a.add j) = some u := by
    intro j u hj
    rw [List.getElem?_map] at hj
    cases hx : t[j]? with
    | none => rw [hx] at hj; cases hj
    | some y =>
      rw [hx] at hj
      have hjl : j < t.length := by
        rcases Nat.lt_or_ge j t.length with q | q
        · exact q
        · rw [List.getElem?_eq_none q] at hx; cases hx
      have e := h7 j hjl
      rw [List.getElem?_eq_getElem hjl] at hx
      simp only [Option.some.injEq] at hx
      simp only [Option.map_some, Option.some.injEq] at hj
      rw [ha (by rintro rfl; exact absurd hjl (Nat.not_lt_zero _)), Addr.add_lit, cell_blk h2, show off + 1 + j = off + (j + 1) by omega, e, hx, hj]
  have h1 : ∀ u ∈ t.map fun y : Nat => Value.int .i64 y, u.oneCell' = true := by
    intro u hu
    obtain ⟨y, _, rfl⟩ := List.mem_map.1 hu
    rfl
  have := run_append_at (P := Try.prog) (w := w) 98 ty 3 i0 ul_ints hi g off 0 c C h2 a t.length c2 (t.map fun y : Nat => Value.int .i64 y) (by rw [hz1]; simp) hnews h1 (by omega) (by rw [hz1]; simp; omega)
  rw [hz1, Nat.zero_add, Nat.zero_mul, Nat.add_zero] at this
  refine ⟨_, this, .inr ⟨g, off, c, _, rfl, setRow_blk h2, by omega, ?_, h5, fun j hj => ?_⟩, setRow_grown⟩
  · simp
    omega
  · rw [List.getElem?_toArray, splice_at (by simp; omega), if_neg (by omega), if_pos (by simp; exact hj), show off + j - off = j by omega, List.getElem?_map, List.getElem?_eq_getElem hj]
    rfl
def LosePost (w : World) (b : Nat) (X : Rg) (R : Nat → UInt8) (x : Nat) (t : List Nat) (e : Ending) (w' : World) : Prop :=
  e = .returned (.tuple #[]) ∧ (∃ v', RgSt w' b { X with hd := (X.hd + x) % X.cap, used := X.used - x, sv := v', lo := X.lo + 1 } R t ∧ v'.ownBlock = X.sv.ownBlock) ∧ Only (rgS b X) w w'
set_option maxHeartbeats 2000000 in
theorem rlose_any {w : World} {b : Nat} {X : Rg} {R : Nat → UInt8} {x : Nat} {t : List Nat} (h : RgSt w b X R (x :: t)) (hb : X.bg = false) (hlo : X.lo + 1 ≤ 1000000000000) :
    Calls Try.prog 66 #[.pointer (some ⟨b, 0, none⟩)] w (LosePost w b X R x t) := by
  have hcap := h.cap
  have hus := h.used
  have hhd := h.hd
  have hsum := h.sum
  have hpos := h.pos
  have hx : x ≤ X.used := by rw [← hsum, List.sum_cons]; omega
  have hrs := rrest_no h hb
  have hpk := peek_any h 0 0 (by omega) (by omega)
  obtain ⟨y0, y1, y2, y3, y4, y5, y6⟩ := h.cells
  obtain ⟨g, off, c, C, hsv, hb1, hb2, hb3, hb4, hb5, hb6⟩ := h.sz.at0
  have hC : w.cell? ⟨g, off, none⟩ = some (.int .i64 x) := by rw [cell_blk hb1]; exact hb5
  rw [hb] at y5
  rw [hsv] at y3
  go_enter Try.func66, Try.ntmps66
  go_upto_region 6 with (first | (go_at_call 65; (refine hrs.mono ?_); rintro e w2 ⟨rfl, rfl⟩) | (go_at_call 58; (refine hpk.mono ?_); rintro e w2 ⟨rfl, hk2⟩))
  clear y0 y1 y2 y3 y4 y5 y6 hC hpk hrs
  have st2 := h.below hk2
  have on2 : Only (rgS b X) w w2 := Only.of_below hk2 _
  clear hk2
  obtain ⟨y0, y1, y2, y3, y4, y5, y6⟩ := st2.cells
  have hz2 := st2.frozen 2
  obtain ⟨m, hm⟩ : ∃ m, m = (X.hd + x) % X.cap := ⟨_, rfl⟩
  have hml : m < X.cap := by rw [hm]; exact Nat.mod_lt _ (by omega)
  have hmi : ((X.hd : Int) + x) % (X.cap : Int) = (m : Int) := by
    have e : ((X.hd + x : Nat) : Int) = (X.hd : Int) + x := by omega
    rw [hm, Int.natCast_emod, e]
  have HM := Lib.hid hm
  clear hm
  go_region
  clear hmi
  have st3 := (st2.toHd m hml).below ((Below.refl (w2.setCell ⟨b, 2, none⟩ (.int .i64 (m : Int))).heap.size _).drew)
  have on3 := (on2.setCell ⟨b, 2, none⟩ (.int .i64 (m : Int)) fun _ => .inl rfl).drew
  have hla := lay_any st3 0 ⟨#[]⟩ (by decide) (Nat.zero_le _)
  clear y0 y1 y2 y3 y4 y5 y6 hz2 st2 on2
  generalize (w2.setCell ⟨b, 2, none⟩ (.int .i64 (m : Int))).drew = w3 at *
  go_upto_region 8 with ((go_at_call 67; (refine hla.mono ?_); rintro e w4 ⟨rfl, st4, on4⟩))
  have on5 : Only (rgS b X) w w4 := on3.trans (on4.mono fun k _ e => show rgS b X k from .inr (.inl e)) fun _ _ x => x
  clear hla st3 on3 on4
  have M4 := st4.drm
  clear st4
  have M4 : DrM w4 b { X with hd := m } R (x :: t) := M4
  obtain ⟨y0, y1, y2, y3, y4, y5, y6⟩ := M4.cells
  dsimp only at y0 y1 y2 y3 y4 y5 y6
  rw [hsv] at y3
  have hz3 := M4.frozen 3
  have hs4 := (M4.keep ((Below.refl w4.heap.size w4).drew)).sz
  dsimp only at hs4
  rw [hsv] at hs4
  unfold maxLen at hb4
  have hcut := fun a c2 ha => SzIn.cut hs4 98 a c2 ha
  have HB := Lib.hid (And.intro hb2 (And.intro hb4 (And.intro hsum hpos)))
  have hgrd : ∀ w9, (w4.drew).grownBy w9 (some g) → SzIn w9 (.slice (some ⟨g, off, none⟩) t.length c) t → DrM (w9.setCell ⟨b, 3, none⟩ (.slice (some ⟨g, off, none⟩) t.length c)) b { X with hd := m, sv := .slice (some ⟨g, off, none⟩) t.length c } R t ∧ Only (rgS b X) w (w9.setCell ⟨b, 3, none⟩ (.slice (some ⟨g, off, none⟩) t.length c)) ∧ w9.cell? ⟨b, 3, none⟩ = some (.slice (some ⟨g, off, none⟩) (t.length + 1) c) ∧ w9.frozen? ⟨b, 3, none⟩ = false := by
    intro w9 hg hs9
    have hbg : b ≠ g := fun e => M4.n1 (by show X.sv.ownBlock = some b; rw [hsv, e]; rfl)
    have hrg : X.rb ≠ g := fun e => M4.n2 (by show X.sv.ownBlock = some X.rb; rw [hsv, e]; rfl)
    have m9 : w9.heap[b]? = _ := (hg.block b (blk_lt M4.me) fun e => hbg (Option.some.inj e)).trans M4.me
    have r9 : IsRoom w9 X.rb X.cap R := M4.room.keep (hg.block X.rb M4.room.lt fun e => hrg (Option.some.inj e))
    refine ⟨?_, (on5.drew.grown hg fun k hk _ => .inr (.inr (by rw [hsv]; rw [← hk]; rfl))).setCell _ _ fun _ => .inl rfl, ?_, frozen_blk m9 3⟩
    · exact { me := (blk_setCell m9 (i := 3) _).trans (by simp [Rg.cells])
              room := r9.keep (Below.heap_setCell _ _ _ _ M4.n3.symm)
              sz := hs9.keep fun g' hg' => Below.heap_setCell _ _ _ _ (fun e => hbg (by rw [show b = g' from Eq.symm e]; exact (Option.some.inj hg').symm))
              n1 := fun e => hbg (Option.some.inj e).symm
              n2 := fun e => hrg (Option.some.inj e).symm
              n3 := M4.n3 }
    · rw [cell_blk m9]
      simp [Rg.cells, hsv]
  have hw1 : IntKind.i64.wrap 1 = 1 := by decide
  by_cases hc1 : c = 1
  · subst hc1
    obtain rfl : t = [] := List.eq_nil_of_length_eq_zero (by have := HB.out.1; omega)
    simp only [List.length_nil] at hcut hgrd
    obtain ⟨w9, hrun, hs9, hg9⟩ := hcut ⟨g, off, none⟩ 0 (fun h => absurd rfl h)
    obtain ⟨q1, q2, q3, q4⟩ := hgrd w9 hg9 hs9
    have HQ := Lib.hid (And.intro q1 q2)
    clear q1 q2 hcut
    go_region_law (refine step_app_run rfl (.tmp 46) (.tmp 53) 98 rfl (.slice (some ⟨g, off, none⟩) 0 1) (.slice (some ⟨g, off, none⟩) 0 0) rfl rfl _ w9 hrun ?_)
    all_goals
      obtain ⟨q1, q2⟩ := HQ.out
      obtain ⟨z0, z1, z2, z3, z4, z5, z6⟩ := q1.cells
      have f4 := q1.frozen 4
      clear q3 q4 hrun hs9 hg9
      dsimp only at z4
      generalize (w9.setCell ⟨b, 3, none⟩ (.slice (some ⟨g, off, none⟩) 0 1)) = w10 at *
      go_upto_region 10 with fail
      rw [show ((X.used : Int) - (x : Int)) = ((X.used - x : Nat) : Int) by omega]
      have M11 := q1.setUsed (X.used - x)
      have on11 := q2.setCell ⟨b, 4, none⟩ (.int .i64 ((X.used - x : Nat) : Int)) fun _ => .inl rfl
      generalize w10.setCell ⟨b, 4, none⟩ (.int .i64 ((X.used - x : Nat) : Int)) = w11 at *
      clear z0 z1 z2 z3 z4 z5 z6 f4 q1 q2
      obtain ⟨z0, z1, z2, z3, z4, z5, z6⟩ := M11.cells
      have f6 := M11.frozen 6
      dsimp only at z6
      go_wp2_with fail
      try rw [show ((X.lo : Int) + 1) = ((X.lo + 1 : Nat) : Int) by omega]
      have M12 := M11.setLo (X.lo + 1)
      have on12 := on11.setCell ⟨b, 6, none⟩ (.int .u64 ((X.lo + 1 : Nat) : Int)) fun _ => .inl rfl
      go_end0
      refine ⟨rfl, ⟨(.slice (some ⟨g, off, none⟩) 0 1), ?_, by rw [hsv]; rfl⟩, on12⟩
      have hms : { X with hd := (X.hd + x) % X.cap, used := X.used - x, sv := (.slice (some ⟨g, off, none⟩) 0 1), lo := X.lo + 1 } = { X with hd := m, used := X.used - x, sv := (.slice (some ⟨g, off, none⟩) 0 1), lo := X.lo + 1 } := by rw [← HM.out]
      rw [hms]
      obtain ⟨_, _, h3, h4⟩ := HB.out
      exact { me := M12.me, room := M12.room, sz := M12.sz, hd := hml, cap := hcap, used := by show X.used - x ≤ X.cap; omega, sum := by rw [List.sum_cons] at h3; show _ = X.used - x; omega, pos := fun z hz => h4 z (List.mem_cons_of_mem _ hz), lo := hlo }
  · have hA : (if c = 1 then some (⟨g, off, none⟩ : Addr) else some ⟨g, off + 1, none⟩) = some ⟨g, off + 1, none⟩ := if_neg hc1
    obtain ⟨w9, hrun, hs9, hg9⟩ := hcut ⟨g, off + 1, none⟩ (c - 1) (fun _ => rfl)
    obtain ⟨q1, q2, q3, q4⟩ := hgrd w9 hg9 hs9
    have HQ := Lib.hid (And.intro q1 q2)
    clear q1 q2 hcut
    have e1 : (1 : Int) ≤ ((t.length + 1 : Nat) : Int) := by omega
    have e2 : (1 : Int) ≤ (t.length : Int) + 1 := by omega
    have e3 : (1 : Int) ≤ (c : Int) := by have := HB.out.1; omega
    go_region_law (refine step_app_run rfl (.tmp 46) (.tmp 53) 98 rfl (.slice (some ⟨g, off, none⟩) 0 c) (.slice (some ⟨g, off + 1, none⟩) t.length (c - 1)) rfl rfl _ w9 hrun ?_)
    all_goals
      obtain ⟨q1, q2⟩ := HQ.out
      obtain ⟨z0, z1, z2, z3, z4, z5, z6⟩ := q1.cells
      have f4 := q1.frozen 4
      clear q3 q4 hrun hs9 hg9
      dsimp only at z4
      generalize (w9.setCell ⟨b, 3, none⟩ (.slice (some ⟨g, off, none⟩) t.length c)) = w10 at *
      go_upto_region 10 with fail
      rw [show ((X.used : Int) - (x : Int)) = ((X.used - x : Nat) : Int) by omega]
      have M11 := q1.setUsed (X.used - x)
      have on11 := q2.setCell ⟨b, 4, none⟩ (.int .i64 ((X.used - x : Nat) : Int)) fun _ => .inl rfl
      generalize w10.setCell ⟨b, 4, none⟩ (.int .i64 ((X.used - x : Nat) : Int)) = w11 at *
      clear z0 z1 z2 z3 z4 z5 z6 f4 q1 q2
      obtain ⟨z0, z1, z2, z3, z4, z5, z6⟩ := M11.cells
      have f6 := M11.frozen 6
      dsimp only at z6
      go_wp2_with fail
      try rw [show ((X.lo : Int) + 1) = ((X.lo + 1 : Nat) : Int) by omega]
      have M12 := M11.setLo (X.lo + 1)
      have on12 := on11.setCell ⟨b, 6, none⟩ (.int .u64 ((X.lo + 1 : Nat) : Int)) fun _ => .inl rfl
      go_end0
      refine ⟨rfl, ⟨(.slice (some ⟨g, off, none⟩) t.length c), ?_, by rw [hsv]; rfl⟩, on12⟩
      have hms : { X with hd := (X.hd + x) % X.cap, used := X.used - x, sv := (.slice (some ⟨g, off, none⟩) t.length c), lo := X.lo + 1 } = { X with hd := m, used := X.used - x, sv := (.slice (some ⟨g, off, none⟩) t.length c), lo := X.lo + 1 } := by rw [← HM.out]
      rw [hms]
      obtain ⟨_, _, h3, h4⟩ := HB.out
      exact { me := M12.me, room := M12.room, sz := M12.sz, hd := hml, cap := hcap, used := by show X.used - x ≤ X.cap; omega, sum := by rw [List.sum_cons] at h3; show _ = X.used - x; omega, pos := fun z hz => h4 z (List.mem_cons_of_mem _ hz), lo := hlo }
theorem qlose_any {w : World} {b cap : Nat} {pol : Int} {f : List UInt8} {L : List (List UInt8)} {lo : Nat} {F : Nat → Prop} (h : RingL w b cap pol (f :: L) false lo F) (hlo : lo + 1 ≤ 1000000000000) :
    Calls Try.prog 66 #[.pointer (some ⟨b, 0, none⟩)] w fun e w' => e = .returned (.tuple #[]) ∧ RingL w' b cap pol L false (lo + 1) F ∧ Only F w w' := by
  obtain ⟨X, R, st, h1, h2, h3, h4, h5, h6⟩ := h.st
  rw [List.map_cons] at st
  refine (rlose_any st h3 (by omega)).mono ?_
  rintro e w' ⟨rfl, ⟨v', st', hv⟩, on'⟩
  have hx : f.length ≤ X.used := by rw [← st.sum, List.sum_cons]; omega
  refine ⟨rfl, ⟨⟨_, R, st', h1, h2, h3, by rw [← h4], ?_, ?_⟩, fun k hk => Nat.lt_of_lt_of_le (h.foot k hk) on'.size, fun _ => rfl⟩, on'.mono fun k _ hk => h6 k hk⟩
  · show cont R X.cap ((X.hd + f.length) % X.cap) (X.used - f.length) = L.flatten
    rw [cont_drop R hx, h5, List.flatten_cons, List.drop_left]
  · rintro k (hk | hk | hk)
    · exact h6 k (.inl hk)
    · exact h6 k (.inr (.inl hk))
    · exact h6 k (.inr (.inr (hv ▸ hk)))
def OldL (w : World) (b cap : Nat) (L : List (List UInt8)) (lo : Nat) (F : Nat → Prop) (g : Nat) (wr : World) : Prop :=
  ∃ d, d ≤ L.length ∧ RingL wr b cap 1 (L.drop d) false (lo + d) F ∧ Only F w wr ∧ L.length - d ≤ g
def OldPost (w : World) (b cap : Nat) (L : List (List UInt8)) (lo : Nat) (F : Nat → Prop) (s : List UInt8) (x : Ending) (w' : World) : Prop :=
  x = .returned (.int .i64 0) ∧ (∃ d, d ≤ L.length ∧ RingL w' b cap 1 (L.drop d ++ [s]) false (lo + d) (grow F w w')) ∧ Only F w w'
/-- A frame stands behind the others: by the ring's numbers, and by its frames. -/
theorem RingL.putAt {wr w' : World} {b cap : Nat} {pol : Int} {L : List (List UInt8)} {bg : Bool} {lo : Nat} {F : Nat → Prop} (h : RingL wr b cap pol L bg lo F) {X : Rg} {R : Nat → UInt8} (h1 : X.cap = cap) (h2 : X.pol = pol) (h3 : X.bg = bg) (h4 : X.lo = lo) (h5 : cont R X.cap X.hd X.used = L.flatten) (h6 : ∀ k, rgS b X k → F k) (s : ByteArray)
    (hp : ∃ X' R', X'.rb = X.rb ∧ X'.cap = X.cap ∧ X'.pol = X.pol ∧ X'.hd = X.hd ∧ X'.used = X.used + s.size ∧ X'.bg = X.bg ∧ X'.lo = X.lo ∧ (X'.sv.ownBlock = X.sv.ownBlock ∨ ∃ k, X'.sv.ownBlock = some k ∧ wr.heap.size ≤ k) ∧ cont R' X.cap X.hd (X.used + s.size) = cont R X.cap X.hd X.used ++ s.data.toList ∧ RgSt w' b X' R' (L.map List.length ++ [s.size]) ∧ Only (rgS b X) wr w') :
    RingL w' b cap pol (L ++ [s.data.toList]) bg lo (grow F wr w') ∧ Only F wr w' := by
  obtain ⟨X', R', k1, k2, k3, k4, k5, k6, k7, k8, k9, st', on'⟩ := hp
  have es : s.data.toList.length = s.size := by simp
  refine ⟨⟨⟨X', R', ?_, k2.trans h1, k3.trans h2, k6.trans h3, k7.trans h4, ?_, ?_⟩, grow_lt h.foot on'.size, ?_⟩, on'.mono fun k _ hk => h6 k hk⟩
  · rw [List.map_append]
    show RgSt w' b X' R' (_ ++ [s.data.toList.length])
    rw [es]
    exact st'
  · rw [k2, k4, k5, k9, List.flatten_append, h5]
    simp
  · rintro k (hk | hk | hk)
    · exact .inl (h6 k (.inl hk))
    · exact .inl (h6 k (.inr (.inl (hk.trans k1))))
    · rcases k8 with h8 | ⟨j, h8, h9⟩
      · exact .inl (h6 k (.inr (.inr (h8 ▸ hk))))
      · rw [hk] at h8
        obtain rfl := Option.some.inj h8
        exact .inr ⟨h9, st'.sz.lt hk⟩
  · intro hL
    cases L <;> cases hL
theorem grow_on {F : Nat → Prop} {w wr w' : World} (h : w.heap.size ≤ wr.heap.size) : ∀ k, grow F wr w' k → grow F w w' k := by
  rintro k (hk | hk)
  · exact .inl hk
  · exact .inr ⟨Nat.le_trans h hk.1, hk.2⟩
set_option maxHeartbeats 4000000 in
theorem qput_old {w : World} {b cap : Nat} {L : List (List UInt8)} {lo : Nat} {F : Nat → Prop} (h : RingL w b cap 1 L false lo F) (s : ByteArray) (h1 : 1 ≤ s.size) (h2 : s.size ≤ 179) (hlo : lo + L.length ≤ 100000000000) :
    Calls Try.prog 40 #[.pointer (some ⟨b, 0, none⟩), .string s] w (OldPost w b cap L lo F s.data.toList) := by
  have n1 : ¬ (s.size : Int) < 1 := by omega
  have n2 : ¬ (179 : Int) < s.size := by omega
  go_enter Try.func40, Try.ntmps40
  go_wp2_with fail
  go_step3
  go_wp2_with fail
  go_step3
  go_wp2_with fail
  go_loopg [54] (L.length) (fun g u wr => OldL w b cap L lo F g wr)
  case atStart => exact ⟨0, Nat.zero_le _, h, Only.refl _ _, Nat.le_refl _⟩
  case round =>
    obtain ⟨d, hd, hr, on, hg⟩ := hrel
    obtain ⟨X, R, st, x1, x2, x3, x4, x5, x6⟩ := hr.st
    have hcap := st.cap
    have hus := st.used
    obtain ⟨y0, y1, y2, y3, y4, y5, y6⟩ := st.cells
    by_cases hfit : X.used + s.size ≤ X.cap
    · have n3 : ¬ (X.cap : Int) - X.used < s.size := by omega
      obtain ⟨dd, hdd⟩ : ∃ dd : Nat, dd = X.cap - X.used := ⟨_, rfl⟩
      have hd2 : (X.cap : Int) - X.used = dd := by omega
      have hd3 : ¬ (dd : Int) < s.size := by omega
      go_upto_region 5 with fail
      go_region
      have hla := fun n => lay_any (st.below (kept_drewN wr n)) X.used s (by omega) (by omega)
      go_upto_region 13 with (go_at_call 67; (refine (hla _).mono ?_); rintro x w2 ⟨rfl, st2, on2⟩)
      have on3 : Only (rgS b X) wr w2 := (Only.ofDrewN _ wr 1).trans (on2.mono fun k _ e => show rgS b X k from .inr (.inl e)) fun _ _ x => x
      clear on2 hla y0 y1 y2 y3 y4 y5 y6
      obtain ⟨z0, z1, z2, z3, z4, z5, z6⟩ := st2.cells
      have hz := st2.frozen 4
      have hlen := st2.len
      obtain ⟨m3, r3, s3⟩ := st2.setUsed (X.used + s.size)
      go_upto_region 14 with fail
      try rw [show ((X.used : Int) + (s.size : Int)) = ((X.used + s.size : Nat) : Int) by omega]
      have on4 := on3.setCell ⟨b, 4, none⟩ (.int .i64 ((X.used + s.size : Nat) : Int)) fun _ => .inl rfl
      have hsz3 : wr.heap.size ≤ (w2.setCell ⟨b, 4, none⟩ (.int .i64 ((X.used + s.size : Nat) : Int))).heap.size := on4.size
      generalize w2.setCell ⟨b, 4, none⟩ (.int .i64 ((X.used + s.size : Nat) : Int)) = w3 at *
      clear z0 z1 z2 z3 z4 z5 z6 hz
      have z3 : w3.cell? ⟨b, 3, none⟩ = some X.sv := by rw [cell_blk m3]; rfl
      have hal := (Below.refl w3.heap.size w3).alloc (Nat.le_refl _) (.cells #[.int .i64 s.size] 3)
      have m4 := (hal.block _ (blk_lt m3)).trans m3
      have r4 := r3.keep (hal.block _ r3.lt)
      have s4 := s3.keep fun g hg => hal.block _ (s3.lt hg)
      have ha : (w3.alloc (.cells #[.int .i64 s.size] 3)).cell? ⟨w3.heap.size, 0, none⟩ = some (.int .i64 s.size) := by rw [cell_blk (heap_alloc_new w3 _)]; rfl
      obtain ⟨v', w4, hrun, hs5, hg5, hv5⟩ := append_sz s4 s.size w3.heap.size 1 ha 98 (by omega)
      obtain ⟨ao5, cp5, hvv⟩ := hs5.form
      rw [List.length_append, List.length_singleton] at hvv
      subst hvv
      have m5 := (hg5.block _ (blk_lt m4) fun x => st2.sv_b x.symm).trans m4
      have r5 := r4.keep (hg5.block _ r4.lt fun x => st2.sv_rb x.symm)
      have z5 : w4.cell? ⟨b, 3, none⟩ = some X.sv := by rw [cell_blk m5]; rfl
      have hz5 : w4.frozen? ⟨b, 3, none⟩ = false := frozen_blk m5 3
      have on5 := ((on4.alloc (.cells #[.int .i64 s.size] 3)).grown hg5 fun k hk _ => show rgS b X k from .inr (.inr hk)).setCell ⟨b, 3, none⟩ (.slice ao5 (((L.drop d).map List.length).length + 1) cp5) fun _ => .inl rfl
      have hne5 : (Value.slice ao5 (((L.drop d).map List.length).length + 1) cp5).ownBlock ≠ some b := by
        intro e
        rcases hv5 with h9 | h9
        · exact st2.sv_b (h9.symm.trans e)
        · have := blk_lt m3
          rw [h9, World.size_alloc] at e
          simp only [Option.some.injEq] at e
          omega
      clear hal m3 r3 s3 s4 r4
      have key : RingL (w4.setCell ⟨b, 3, none⟩ (.slice ao5 (((L.drop d).map List.length).length + 1) cp5)) b cap 1 (L.drop d ++ [s.data.toList]) false (lo + d) (grow F wr (w4.setCell ⟨b, 3, none⟩ (.slice ao5 (((L.drop d).map List.length).length + 1) cp5))) ∧ Only F wr (w4.setCell ⟨b, 3, none⟩ (.slice ao5 (((L.drop d).map List.length).length + 1) cp5)) := by
        refine hr.putAt x1 x2 x3 x4 x5 x6 s ⟨{ X with used := X.used + s.size, sv := .slice ao5 (((L.drop d).map List.length).length + 1) cp5 }, layR R X.cap (X.hd + X.used) s.data.toList s.size, rfl, rfl, rfl, rfl, rfl, rfl, rfl, ?_, ?_, ?_, on5⟩
        · rcases hv5 with h9 | h9
          · exact .inl h9
          · exact .inr ⟨_, h9, Nat.le_trans hsz3 (by simp)⟩
        · have e : s.data.toList.length = s.size := by simp
          have := cont_lay R (cap := X.cap) (h := X.hd) (n := X.used) (s := s.data.toList) (by omega)
          rw [e] at this
          exact this
        · exact { me := (blk_setCell m5 (i := 3) _).trans (by simp [Rg.cells])
                  room := r5.keep (Below.heap_setCell _ _ _ _ st.b_rb.symm)
                  sz := hs5.keep fun g hg => Below.heap_setCell _ _ _ _ (fun e => hne5 (by rw [hg, show b = g from Eq.symm e]))
                  hd := st.hd, cap := st.cap, used := hfit
                  sum := by rw [List.sum_append, st.sum]; simp
                  pos := fun x hx => by
                    rcases List.mem_append.1 hx with hx | hx
                    · exact st.pos x hx
                    · obtain rfl := List.mem_singleton.1 hx
                      exact h1
                  lo := st.lo }
      have HK := Lib.hid key
      clear key
      go_upto_region 15 with (at_builtin; (refine list_app_run rfl (.tmp 82) (.tmp 85) 98 rfl X.sv (.slice (some ⟨w3.heap.size, 0, none⟩) 1 1) rfl rfl (.slice ao5 (((L.drop d).map List.length).length + 1) cp5) w4 hrun ?_))
      go_wp2_with fail
      try simp only [Exit.noGoto]
      go_ret
      obtain ⟨key1, key2⟩ := HK.out
      simp only [List.length_map, List.length_drop] at key1 key2
      refine ⟨rfl, ⟨d, hd, ?_⟩, on.trans key2 fun _ _ x => x⟩
      exact key1.mono (grow_on on.size) (grow_lt h.foot (Nat.le_trans on.size key2.size))
    · have n3 : (X.cap : Int) - X.used < s.size := by omega
      obtain ⟨dd, hdd⟩ : ∃ dd : Nat, dd = X.cap - X.used := ⟨_, rfl⟩
      have hd2 : (X.cap : Int) - X.used = dd := by omega
      have hd3 : (dd : Int) < s.size := by omega
      have hn4 : ¬ (X.cap : Int) < s.size := by omega
      have hn5 : ¬ (X.used : Int) = 0 := by omega
      have hne : L.drop d ≠ [] := by
        intro q
        have : cont R X.cap X.hd X.used = [] := by rw [x5, q]; rfl
        have hl := congrArg List.length this
        rw [show (cont R X.cap X.hd X.used).length = X.used by simp [cont]] at hl
        simp at hl
        omega
      have hdl : d < L.length := by
        rcases Nat.lt_or_ge d L.length with q | q
        · exact q
        · exact absurd (List.drop_eq_nil_of_le q) hne
      obtain ⟨f, hf⟩ : ∃ f, L.drop d = f :: L.drop (d + 1) := ⟨_, List.drop_eq_getElem_cons hdl⟩
      go_upto_region 5 with fail
      go_region
      have st1 : RgSt wr.drew b X R _ := st.below (kept_drewN wr 1)
      have hr1 : RingL wr.drew b cap 1 _ _ _ F := hr.below (kept_drewN wr 1)
      have on1 := on.drew
      clear y0 y1 y2 y3 y4 y5 y6 st hr on
      generalize wr.drew = w1 at *
      obtain ⟨y0, y1, y2, y3, y4, y5, y6⟩ := st1.cells
      rw [x2] at y1
      have hrs : ∀ a, Calls Try.prog 65 #[.pointer (some ⟨b, 0, none⟩)] (w1.drewN a) (fun e w'' => e = .returned (.int .i64 0) ∧ ∃ m, w'' = w1.drewN m) := fun a => (rrest_no (st1.below (kept_drewN w1 a)) x3).mono fun e w' h => ⟨h.1, a, h.2.symm⟩
      rw [hf] at hr1
      have hlo := fun n => qlose_any (hr1.below (kept_drewN w1 n)) (by omega)
      go_upto_region 7 with fail
      go_quiet (exact hrs _)
      go_wp2_with ((go_at_call 66; (refine (hlo _).mono ?_); rintro e w2 ⟨rfl, hr2, on2⟩))
      obtain ⟨gg, rfl⟩ : ∃ gg, gk = gg + 1 := ⟨gk - 1, by omega⟩
      go_roundg gg
      case measure => omega
      case rel => exact ⟨d + 1, hdl, hr2, (on1.drewN _).trans on2 fun _ _ q => q, by omega⟩
theorem putsAs1 : PutsAs 1 := by
  intro w b cap L lo F h s h1 h2 hlo
  refine (qput_old h s h1 h2 hlo).mono ?_
  rintro e w' ⟨rfl, ⟨d, hd, hr⟩, on⟩
  exact ⟨⟨_, rfl⟩, ⟨_, _, .inr ⟨rfl, d, hd, rfl, rfl⟩, hr⟩, on⟩
end Go.Proofs.Ytbfipgeoecbpaaa
