/- The walk of the statement of layer 24: PipeWaits. -/
import Derived.Test.YtbfipgeoecbpaaaW24U
import Derived.Deep.LoopGhost
namespace Go.Proofs.Ytbfipgeoecbpaaa
open Go.RowKit
set_option linter.unusedVariables false
set_option linter.unusedSimpArgs false
set_option maxRecDepth 20000
/-- The ring and the pipe between two calls. -/
structure WtSt (w wr : World) (B b c room br : Nat) (l : List ByteArray) (cl : Bool) (L : List (List UInt8)) (bg : Bool) (lo : Nat) : Prop where
  rg : ∃ F, RgL wr br 4000 0 L bg lo F ∧ ∀ k, F k → B ≤ k
  pp : IsPipe wr b c room l cl
  bel : Below w.heap.size w wr
  hB : w.heap.size ≤ B ∧ B ≤ wr.heap.size
  bc : w.heap.size ≤ b ∧ w.heap.size ≤ c ∧ b < B ∧ c < B
def WtF (w : World) (B b c room br len : Nat) (g : Nat) (i : Value) (wr : World) : Prop :=
  ∃ (k : Nat) (L : List (List UInt8)) (lo : Nat), i = .int .i64 k ∧ k ≤ len ∧ lo ≤ k ∧ WtSt w wr B b c room br [] false L false lo ∧ len - k ≤ g
theorem WtSt.put {w wr w2 : World} {B b c room br : Nat} {l : List ByteArray} {cl bg : Bool} {L L' : List (List UInt8)} {lo lo' : Nat} (h : WtSt w wr B b c room br l cl L bg lo) {F : Nat → Prop} (hF : ∀ k, F k → B ≤ k) (hr : RgL w2 br 4000 0 L' bg lo' (grow F wr w2)) (on : Only F wr w2) : WtSt w w2 B b c room br l cl L' bg lo' :=
  { rg := ⟨_, hr, fun k hk => by
      rcases hk with hk | hk
      · exact hF k hk
      · exact Nat.le_trans h.hB.2 hk.1⟩
    pp := h.pp.only on (fun x => by have := hF _ x; have := h.bc; omega) (fun x => by have := hF _ x; have := h.bc; omega)
    bel := h.bel.trans (on.below h.bel.size fun i hi x => by have := hF _ x; have := h.hB; omega)
    hB := ⟨h.hB.1, Nat.le_trans h.hB.2 on.size⟩
    bc := h.bc }
theorem WtSt.pump {w wr w2 : World} {B b c room br : Nat} {l l' : List ByteArray} {cl bg bg' : Bool} {L L' : List (List UInt8)} {lo lo' : Nat} (h : WtSt w wr B b c room br l cl L bg lo) {F : Nat → Prop} (hF : ∀ k, F k → B ≤ k) (hr : RgL w2 br 4000 0 L' bg' lo' F) (hp : IsPipe w2 b c room l' cl) (on : Only (fun j => j = c ∨ F j) wr w2) : WtSt w w2 B b c room br l' cl L' bg' lo' :=
  { rg := ⟨_, hr, hF⟩
    pp := hp
    bel := h.bel.trans (on.below h.bel.size fun i hi x => by
      rcases x with x | x
      · have := h.bc; omega
      · have := hF _ x; have := h.hB; omega)
    hB := ⟨h.hB.1, Nat.le_trans h.hB.2 on.size⟩
    bc := h.bc }
theorem WtSt.close {w wr w2 : World} {B b c room br : Nat} {l : List ByteArray} {bg : Bool} {L : List (List UInt8)} {lo : Nat} (h : WtSt w wr B b c room br l false L bg lo) (hp : IsPipe w2 b c room l true) (on : Only (fun j => j = b ∨ j = c) wr w2) : WtSt w w2 B b c room br l true L bg lo := by
  obtain ⟨F, hr, hF⟩ := h.rg
  exact
  { rg := ⟨F, hr.only on fun k hk x => by have := hF _ hk; have := h.bc; omega, hF⟩
    pp := hp
    bel := h.bel.trans (on.below h.bel.size fun i hi x => by have := h.bc; omega)
    hB := ⟨h.hB.1, Nat.le_trans h.hB.2 on.size⟩
    bc := h.bc }
def WtP (w : World) (B b c room br : Nat) (n : Int) (U : Nat) (lo : Nat) (g : Nat) (a j : Value) (wr : World) : Prop :=
  ∃ (k av : Nat) (l : List ByteArray) (L : List (List UInt8)) (bg : Bool), j = .int .i64 k ∧ a = .int .i64 av ∧ k ≤ 70 ∧ av + L.flatten.length = U ∧ l.length ≤ room ∧ (l.length = k ∨ room ≤ l.length ∨ L.flatten.length = 0 ∨ n < 1) ∧ (n < 1 → av = 0) ∧ WtSt w wr B b c room br l false L bg lo ∧ 70 - k ≤ g
theorem drn_len (L : List (List UInt8)) (k : Nat) (bg : Bool) : (drn L k bg).1.flatten.length = L.flatten.length - k := by rw [drn_flat, List.length_drop]
set_option maxHeartbeats 4000000 in
theorem pipeWaits_law (n0 : Int) (oa : Option Addr) (len cap : Nat) (z : Nat → ByteArray) (n : Int) (w : World) (_h0 : (Lit.int .i64 n0).wf = true) (hsl : SlArg w oa len cap (fun i => .string (z i))) (_hr : cap * 16 ≤ 140737488351232) (_hz : ∀ i, i < len → (z i).size ≤ maxLen) (_hn : (Lit.int .i64 n).wf = true) :
    Calls Try.prog 9 #[.int .i64 n0, .slice oa len cap, .int .i64 n] w fun e w' => e = .returned (.bool true) ∧ Below w.heap.size w w' := by
  have hB := Below.refl w.heap.size w
  obtain ⟨hn1, hn2⟩ := i64_of _hn
  clear _h0 _hn _hz
  by_cases h0 : n0 < 1 ∨ 64 < n0
  · go_enter Try.func9, Try.ntmps9
    go_wp2_with fail
    refine (new_bad _ h0 _).mono ?_
    rintro e w1 ⟨rfl, rfl⟩
    go_wp2_with fail
    refine (lnew_any 4000 0 (.inl rfl) (by decide) (by decide) _).mono ?_
    rintro e w2 ⟨rfl, _, hk1⟩
    go_wp2_with fail
    refine (awake24 _).mono ?_
    rintro e w3 ⟨rfl, hk2⟩
    go_wp2_with fail
    refine (awake24 _).mono ?_
    rintro e w4 ⟨rfl, hk3⟩
    go_wp2_with fail
    go_ret
    exact ⟨rfl, hk1.trans ((hk2.mono hk1.size).trans (hk3.mono (Nat.le_trans hk1.size hk2.size)))⟩
  · obtain ⟨room, rfl⟩ : ∃ room : Nat, n0 = room := ⟨n0.toNat, by omega⟩
    have r1 : 1 ≤ room := by omega
    have r2 : room ≤ 64 := by omega
    clear h0
    go_enter Try.func9, Try.ntmps9
    go_wp2_with fail
    refine (pnew_any room r1 r2 _).mono ?_
    rintro e w1 ⟨b, c, rfl, hP, hb, hc, hk⟩
    go_wp2_with fail
    refine (lnew_any 4000 0 (.inl rfl) (by decide) (by decide) _).mono ?_
    rintro e w2 ⟨rfl, hR, hk1⟩
    obtain ⟨B, hBB⟩ : ∃ B, B = w1.heap.size := ⟨_, rfl⟩
    have hft : ∀ k, NewFoot w1 k → B ≤ k := by rintro k (rfl | rfl) <;> omega
    have st : WtSt w w2 B b c room (w1.heap.size + 1) [] false [] false 0 :=
      { rg := ⟨_, hR, hft⟩, pp := hP.only (Only.of_below hk1 (fun _ => False)) (fun h => h) (fun h => h), bel := hk.trans (hk1.mono hk.size), hB := ⟨hBB ▸ hk.size, hBB ▸ hk1.size⟩
        bc := ⟨hb, hc, hBB ▸ blk_lt hP.blk, by obtain ⟨_, _, q⟩ := hP.ch; exact hBB ▸ blk_lt q⟩ }
    clear hP hR hk hk1 hft hb hc hB
    generalize w1.heap.size + 1 = br at *
    clear hBB
    go_wp2_with fail
    refine (awake24 _).mono ?_
    rintro e w3 ⟨rfl, hk2⟩
    have st3 : WtSt w w3 B b c room br [] false [] false 0 := by
      obtain ⟨F, hr, hF⟩ := st.rg
      exact { rg := ⟨F, hr.below hk2, hF⟩, pp := st.pp.only (Only.of_below hk2 (fun _ => False)) (fun h => h) (fun h => h), bel := st.bel.trans (hk2.mono st.bel.size), hB := ⟨st.hB.1, Nat.le_trans st.hB.2 hk2.size⟩, bc := st.bc }
    clear hk2 st
    by_cases hl : len ≤ 100
    · have hd : decide ((100 : Int) < len) = false := by simp; omega
      go_wp2_with fail
      clear hd
      go_loopg [45] (len) (fun g i wr => WtF w B b c room br len g i wr)
      case atStart => exact ⟨0, [], 0, rfl, Nat.zero_le _, Nat.le_refl _, st3, by omega⟩
      case round =>
        clear st3
        obtain ⟨k, L, lo, rfl, hk, hlo, st, hg⟩ := hrel
        by_cases hlt : k < len
        · obtain ⟨gb, off, rfl, hg2, hc'⟩ := hsl.below st.bel (Nat.le_refl _) hlt
          have hlt' : (k : Int) < len := by omega
          obtain ⟨F, hr, hF⟩ := st.rg
          have hlo2 : lo ≤ 100 := by omega
          have hpu := lput_any hr (z k) (by omega)
          go_wp2_with ((go_at_call 40; (refine hpu.mono ?_); rintro x w5 ⟨rfl, hr5, on5⟩))
          have st5 := st.put hF hr5 on5
          obtain ⟨gg, rfl⟩ : ∃ gg, gk = gg + 1 := ⟨gk - 1, by omega⟩
          go_roundg gg
          case measure => omega
          case rel =>
            refine ⟨k + 1, _, _, by go_num, by omega, ?_, st5, by omega⟩
            unfold putN
            split <;> omega
        · have hlt' : ¬ (k : Int) < len := by omega
          clear hk
          obtain ⟨F, hr, hF⟩ := st.rg
          obtain ⟨q1, q2, q3, q4, q5⟩ := hr.len
          obtain ⟨U, hU⟩ : ∃ U, U = L.flatten.length := ⟨_, rfl⟩
          have hus := lused_any hr
          rw [← hU] at q1 hus
          have HU := Lib.hid hU
          clear hU q5 q2 q3
          go_wp2_with ((go_at_call 26; (refine hus.mono ?_); rintro x w5 ⟨rfl, rfl⟩))
          clear hr hF hus
          go_loopg [14, 55] (70) (fun g a j wr => WtP w B b c room br n U lo g a j wr)
          case atStart => exact ⟨0, 0, [], L, false, rfl, rfl, by decide, by have := HU.out; omega, Nat.zero_le _, .inl rfl, fun _ => rfl, st, by omega⟩
          case round =>
            clear st
            obtain ⟨j, av, lp, L2, bg, rfl, rfl, hj, hav, hlr, hfu, hz0, st, hg2⟩ := hrel
            have HAV := Lib.hid (And.intro hav (And.intro hfu hz0))
            clear hav hfu hz0 hg
            obtain ⟨F, hr, hF⟩ := st.rg
            obtain ⟨q1', q2, q3, q4, q5⟩ := hr.len
            obtain ⟨u, hu⟩ : ∃ u, u = L2.flatten.length := ⟨_, rfl⟩
            have hus := lused_any hr
            rw [← hu] at q1' hus
            clear q2 q3 q5
            by_cases hjt : j < 70
            · have hjt' : (j : Int) < 70 := by omega
              have hpm := pump_any hr st.pp hlr r2 (fun x => by have := hF _ x; have := st.bc; omega) (fun x => by have := hF _ x; have := st.bc; omega) n hn1 hn2
              rw [← hu] at hpm
              obtain ⟨kp, hkp⟩ : ∃ kp, kp = pumpN room lp.length false n u := ⟨_, rfl⟩
              rw [← hkp] at hpm
              have hkpu : kp ≤ u := by rw [hkp]; unfold pumpN; split <;> omega
              have HKP := Lib.hid (And.intro hkp hu)
              clear hkp hu
              have havb : av ≤ 4000 := by have := HAV.out.1; omega
              go_upto_region 14 with ((go_at_call 26; (refine hus.mono ?_); rintro x w5 ⟨rfl, rfl⟩))
              go_upto_region 15 with ((go_at_call 41; (refine hpm.mono ?_); rintro x w6 ⟨rfl, hr6, hp6, on6⟩))
              have st6 := st.pump hF hr6 hp6 on6
              have hus6 := lused_any hr6
              rw [drn_len, ← HKP.out.2] at hus6
              have hpl := pipeLen_any hp6
              obtain ⟨u2, hu2⟩ : ∃ u2, u2 = u - kp := ⟨_, rfl⟩
              rw [← hu2] at hus6
              obtain ⟨l2, hl2⟩ : ∃ l2, l2 = if kp = 0 then lp else lp ++ [⟨(L2.flatten.take kp).toArray⟩] := ⟨_, rfl⟩
              rw [← hl2] at hpl st6
              have hl2r : l2.length ≤ room := by
                rw [hl2]
                split
                · exact hlr
                · rename_i hk0
                  have := HKP.out.1
                  unfold pumpN at this
                  split at this
                  · exact absurd this hk0
                  · rename_i hno
                    simp only [List.length_append, List.length_singleton]
                    have : ¬ room ≤ lp.length := fun x => hno (.inr (.inl x))
                    omega
              have hne : ((u2 : Int) != (u : Int) - (kp : Int)) = false := by
                have : (u2 : Int) = (u : Int) - (kp : Int) := by omega
                simp [this]
              have hd2 : decide (room < l2.length) = false := by simp; omega
              have HL := Lib.hid (And.intro hl2 hu2)
              clear hl2 hu2 hr hus hpm hr6 hp6 on6 hF st
              go_upto_region 17 with (first | (go_at_call 26; (refine hus6.mono ?_); rintro x w7 ⟨rfl, rfl⟩) | (go_at_call 42; (refine hpl.mono ?_); rintro x w7 ⟨rfl, rfl⟩))
              go_wp2_with fail
              obtain ⟨gg, rfl⟩ : ∃ gg, gk = gg + 1 := ⟨gk - 1, by omega⟩
              go_roundg gg
              case measure => omega
              case rel =>
                obtain ⟨hav, hfu, hz0⟩ := HAV.out
                obtain ⟨hkp, hu⟩ := HKP.out
                obtain ⟨hl2, hu2⟩ := HL.out
                refine ⟨j + 1, av + kp, l2, _, _, by go_num, by go_num, by omega, ?_, hl2r, ?_, ?_, st6, by omega⟩
                · rw [drn_len, ← hu, ← hav]
                  omega
                · rw [drn_len, ← hu]
                  unfold pumpN at hkp
                  split at hkp
                  · rename_i hno
                    rw [hl2, if_pos hkp, hkp]
                    rcases hno with hno | hno | hno
                    · cases hno
                    · exact .inr (.inl hno)
                    · exact .inr (.inr (.inr hno))
                  · rename_i hno
                    by_cases hk0 : kp = 0
                    · exact .inr (.inr (.inl (by have : ¬ n < 1 := fun x => hno (.inr (.inr x)); omega)))
                    · rw [hl2, if_neg hk0]
                      simp only [List.length_append, List.length_singleton]
                      rcases hfu with hfu | hfu | hfu | hfu
                      · exact .inl (by rw [hfu])
                      · exact absurd (Or.inr (Or.inl hfu)) hno
                      · exact .inr (.inr (.inl (by omega)))
                      · exact .inr (.inr (.inr hfu))
                · intro hn
                  have := hz0 hn
                  have : kp = 0 := by rw [hkp]; unfold pumpN; rw [if_pos (.inr (.inr hn))]
                  omega
            · obtain rfl : j = 70 := by omega
              obtain ⟨hav, hfu, hz0⟩ := HAV.out
              rw [← hu] at hav hfu
              have hev : ((u : Int) + (av : Int) == (U : Int)) = true := by
                have : (u : Int) + (av : Int) = (U : Int) := by omega
                simp [this]
              have havb : av ≤ 4000 := by omega
              have hcases : (n < 1 ∧ av = 0) ∨ (1 ≤ n ∧ lp.length < room ∧ u = 0) ∨ (1 ≤ n ∧ room ≤ lp.length) := by omega
              have HU2 := Lib.hid hu
              have HV := Lib.hid hev
              clear hav hfu hz0 HAV hev hu HU
              have hpl := pipeLen_any st.pp
              rcases hcases with ⟨hn, hx⟩ | ⟨hn, hf, hx⟩ | ⟨hn, hf⟩
              · have t1 : decide (n < 1) = true := by simp; omega
                have t2 : decide (1 ≤ n) = false := by simp; omega
                have t3 : ((av : Int) != 0) = false := by simp; omega
                clear hn hx
                go_upto_region 21 with (first | (go_at_call 26; (refine hus.mono ?_); rintro x w7 ⟨rfl, rfl⟩) | (go_at_call 42; (refine hpl.mono ?_); rintro x w7 ⟨rfl, rfl⟩))
                go_upto_region 22 with ((go_at_call 43; (refine (close_open st.pp).mono ?_); rintro x w7 ⟨rfl, hp7, on7⟩))
                have st7 := st.close hp7 on7
                clear hr hus hpl hF st t1 t2 t3 hp7 on7
                obtain ⟨F7, hr7, hF7⟩ := st7.rg
                have hus7 := lused_any hr7
                rw [← HU2.out] at hus7
                have hpm7 := pump_any hr7 st7.pp hlr r2 (fun x => by have := hF7 _ x; have := st7.bc; omega) (fun x => by have := hF7 _ x; have := st7.bc; omega) n hn1 hn2
                rw [show pumpN room lp.length true n L2.flatten.length = 0 from if_pos (.inl rfl)] at hpm7
                go_upto_region 23 with ((go_at_call 26; (refine hus7.mono ?_); rintro x w8 ⟨rfl, rfl⟩))
                go_wp2_with fail
                refine hpm7.mono ?_
                rintro x w8 ⟨rfl, hr8, hp8, on8⟩
                have st8 := st7.pump hF7 hr8 hp8 on8
                have hus8 := lused_any hr8
                rw [drn_len, Nat.sub_zero, ← HU2.out] at hus8
                clear hr8 hp8 on8 hpm7 hus7 hr7 hF7 st7
                have hev := HV.out
                go_wp2_with ((go_at_call 26; (refine hus8.mono ?_); rintro x w9 ⟨rfl, rfl⟩))
                go_ret
                exact ⟨rfl, st8.bel⟩
              · have t1 : decide (n < 1) = false := by simp; omega
                have t2 : decide (1 ≤ n) = true := by simp; omega
                have t3 : decide (lp.length < room) = true := by simp; omega
                have t4 : decide (0 < u) = false := by simp; omega
                clear hn hf hx
                go_upto_region 21 with (first | (go_at_call 26; (refine hus.mono ?_); rintro x w7 ⟨rfl, rfl⟩) | (go_at_call 42; (refine hpl.mono ?_); rintro x w7 ⟨rfl, rfl⟩))
                go_upto_region 22 with ((go_at_call 43; (refine (close_open st.pp).mono ?_); rintro x w7 ⟨rfl, hp7, on7⟩))
                have st7 := st.close hp7 on7
                clear hr hus hpl hF st t1 t2 t3 hp7 on7
                obtain ⟨F7, hr7, hF7⟩ := st7.rg
                have hus7 := lused_any hr7
                rw [← HU2.out] at hus7
                have hpm7 := pump_any hr7 st7.pp hlr r2 (fun x => by have := hF7 _ x; have := st7.bc; omega) (fun x => by have := hF7 _ x; have := st7.bc; omega) n hn1 hn2
                rw [show pumpN room lp.length true n L2.flatten.length = 0 from if_pos (.inl rfl)] at hpm7
                go_upto_region 23 with ((go_at_call 26; (refine hus7.mono ?_); rintro x w8 ⟨rfl, rfl⟩))
                go_wp2_with fail
                refine hpm7.mono ?_
                rintro x w8 ⟨rfl, hr8, hp8, on8⟩
                have st8 := st7.pump hF7 hr8 hp8 on8
                have hus8 := lused_any hr8
                rw [drn_len, Nat.sub_zero, ← HU2.out] at hus8
                clear hr8 hp8 on8 hpm7 hus7 hr7 hF7 st7
                have hev := HV.out
                go_wp2_with ((go_at_call 26; (refine hus8.mono ?_); rintro x w9 ⟨rfl, rfl⟩))
                go_ret
                exact ⟨rfl, st8.bel⟩
              · have t1 : decide (n < 1) = false := by simp; omega
                have t2 : decide (1 ≤ n) = true := by simp; omega
                have t3 : decide (lp.length < room) = false := by simp; omega
                clear hn hf
                go_upto_region 21 with (first | (go_at_call 26; (refine hus.mono ?_); rintro x w7 ⟨rfl, rfl⟩) | (go_at_call 42; (refine hpl.mono ?_); rintro x w7 ⟨rfl, rfl⟩))
                go_upto_region 22 with ((go_at_call 43; (refine (close_open st.pp).mono ?_); rintro x w7 ⟨rfl, hp7, on7⟩))
                have st7 := st.close hp7 on7
                clear hr hus hpl hF st t1 t2 t3 hp7 on7
                obtain ⟨F7, hr7, hF7⟩ := st7.rg
                have hus7 := lused_any hr7
                rw [← HU2.out] at hus7
                have hpm7 := pump_any hr7 st7.pp hlr r2 (fun x => by have := hF7 _ x; have := st7.bc; omega) (fun x => by have := hF7 _ x; have := st7.bc; omega) n hn1 hn2
                rw [show pumpN room lp.length true n L2.flatten.length = 0 from if_pos (.inl rfl)] at hpm7
                go_upto_region 23 with ((go_at_call 26; (refine hus7.mono ?_); rintro x w8 ⟨rfl, rfl⟩))
                go_wp2_with fail
                refine hpm7.mono ?_
                rintro x w8 ⟨rfl, hr8, hp8, on8⟩
                have st8 := st7.pump hF7 hr8 hp8 on8
                have hus8 := lused_any hr8
                rw [drn_len, Nat.sub_zero, ← HU2.out] at hus8
                clear hr8 hp8 on8 hpm7 hus7 hr7 hF7 st7
                have hev := HV.out
                go_wp2_with ((go_at_call 26; (refine hus8.mono ?_); rintro x w9 ⟨rfl, rfl⟩))
                go_ret
                exact ⟨rfl, st8.bel⟩
    · have hd : decide ((100 : Int) < len) = true := by simp; omega
      go_wp2_with fail
      refine (awake24 _).mono ?_
      rintro e w4 ⟨rfl, hk3⟩
      go_wp2_with fail
      go_ret
      exact ⟨rfl, st3.bel.trans (hk3.mono st3.bel.size)⟩
end Go.Proofs.Ytbfipgeoecbpaaa
