/- The document's ring (ref08): Put where the newest is dropped. No condition but those that each names. -/
import Derived.Test.YtbfipgeoecbpaaaRr
namespace Go.Proofs.Ytbfipgeoecbpaaa
open Go.RowKit
set_option linter.unusedVariables false
set_option linter.unusedSimpArgs false
set_option maxRecDepth 20000
theorem toB_list (s : ByteArray) : toB s.data.toList = s := by
  cases s
  simp [toB]
section
variable {w w' w15 : World} {m cap : Nat} {lv gv v' : Value} {L : List (List UInt8)} {GL : List ByteArray} {bg : Bool} {lo : Nat} {U : Nat → Prop} {s : ByteArray}
def more (U : Nat → Prop) (w w' : World) (k : Nat) : Prop := U k ∨ (w.heap.size ≤ k ∧ k < w'.heap.size)
theorem RrB.app_l (h : RrB w m cap lv gv L GL bg lo U) (foot : ∀ k, U k → k < w.heap.size) (hg : w.grownBy w15 lv.ownBlock) (own : w15.ownsRow 0 9 1 v' (L.length + 1) (sv (bL L) ++ sv [s])) (hat : v'.ownBlock = lv.ownBlock ∨ v'.ownBlock = some w.heap.size) :
    RrB (w15.setCell ⟨m, 2, none⟩ v') m cap v' gv (L ++ [s.data.toList]) GL bg lo (more U w (w15.setCell ⟨m, 2, none⟩ v')) ∧ Only U w (w15.setCell ⟨m, 2, none⟩ v') ∧ w15.cell? ⟨m, 2, none⟩ = some lv ∧ w15.frozen? ⟨m, 2, none⟩ = false := by
  obtain ⟨n1, n2⟩ := h.vm
  have me15 := (hg.block m (blk_lt h.me) (fun q => n1 q.symm)).trans h.me
  have og15 := own_keepR h.og fun g hgg => hg.block g (h.og.lt g hgg).2 (fun q => h.ne g q.symm hgg)
  have hl : sv (bL L) ++ sv [s] = sv (bL (L ++ [s.data.toList])) := by simp [sv, bL, toB_list]
  have hn : (L ++ [s.data.toList]).length = L.length + 1 := by simp
  have hv : v'.ownBlock ≠ some m := by
    intro q
    obtain ⟨C, hc⟩ := own_tyR own q
    rw [me15] at hc
    simp only [Option.some.injEq, Obj.cells.injEq] at hc
    exact absurd hc.2.1 (by decide)
  have hs : (w15.setCell ⟨m, 2, none⟩ v').heap.size = w15.heap.size := by simp [World.setCell]
  refine ⟨{ me := (blk_setCell me15 (i := 2) _).trans (by simp [rrCells]), ol := ?_, og := own_keepR og15 fun g hgg => Below.heap_setCell _ _ _ _ (fun q => n2 (by rw [hgg, show g = m from q])), um := .inl h.um, ul := ?_, ug := fun g hgg => .inl (h.ug g hgg), ne := ?_, gl := h.gl, los := h.los, bgn := fun _ => by simp }, (((Only.refl U w).grown hg fun k hk _ => h.ul k hk).setCell _ _ fun _ => h.um), ?_, frozen_blk me15 2⟩
  · rw [hn, ← hl]
    exact own_keepR own fun g hgg => Below.heap_setCell _ _ _ _ (fun q => hv (by rw [hgg, show g = m from q]))
  · intro g hgg
    rcases hat with q | q
    · exact .inl (h.ul g (q.symm.trans hgg))
    · have := (own.lt g hgg).2
      rw [hgg] at q
      have := Option.some.inj q
      exact .inr ⟨by omega, by rw [hs]; omega⟩
  · intro g hgg q2
    rcases hat with q | q
    · exact h.ne g (q.symm.trans hgg) q2
    · rw [hgg] at q
      have := Option.some.inj q
      have := foot g (h.ug g q2)
      omega
  · rw [cell_blk me15]; rfl
theorem RrB.app_g (h : RrB w m cap lv gv L GL bg lo U) (hgl : GL.length + 1 ≤ lo) (foot : ∀ k, U k → k < w.heap.size) (hg : w.grownBy w15 gv.ownBlock) (own : w15.ownsRow 0 9 1 v' (GL.length + 1) (sv GL ++ sv [s])) (hat : v'.ownBlock = gv.ownBlock ∨ v'.ownBlock = some w.heap.size) :
    RrB (w15.setCell ⟨m, 5, none⟩ v') m cap lv v' L (GL ++ [s]) bg lo (more U w (w15.setCell ⟨m, 5, none⟩ v')) ∧ Only U w (w15.setCell ⟨m, 5, none⟩ v') ∧ w15.cell? ⟨m, 5, none⟩ = some gv ∧ w15.frozen? ⟨m, 5, none⟩ = false := by
  obtain ⟨n1, n2⟩ := h.vm
  have me15 := (hg.block m (blk_lt h.me) (fun q => n2 q.symm)).trans h.me
  have ol15 := own_keepR h.ol fun g hgg => hg.block g (h.ol.lt g hgg).2 (fun q => h.ne g hgg q.symm)
  have hl : sv GL ++ sv [s] = sv (GL ++ [s]) := by simp [sv]
  have hn : (GL ++ [s]).length = GL.length + 1 := by simp
  have hv : v'.ownBlock ≠ some m := by
    intro q
    obtain ⟨C, hc⟩ := own_tyR own q
    rw [me15] at hc
    simp only [Option.some.injEq, Obj.cells.injEq] at hc
    exact absurd hc.2.1 (by decide)
  have hs : (w15.setCell ⟨m, 5, none⟩ v').heap.size = w15.heap.size := by simp [World.setCell]
  refine ⟨{ me := (blk_setCell me15 (i := 5) _).trans (by simp [rrCells]), ol := own_keepR ol15 fun g hgg => Below.heap_setCell _ _ _ _ (fun q => n1 (by rw [hgg, show g = m from q])), og := ?_, um := .inl h.um, ul := fun g hgg => .inl (h.ul g hgg), ug := ?_, ne := ?_, gl := by rw [hn]; exact hgl, los := h.los, bgn := h.bgn }, (((Only.refl U w).grown hg fun k hk _ => h.ug k hk).setCell _ _ fun _ => h.um), ?_, frozen_blk me15 5⟩
  · rw [hn, ← hl]
    exact own_keepR own fun g hgg => Below.heap_setCell _ _ _ _ (fun q => hv (by rw [hgg, show g = m from q]))
  · intro g hgg
    rcases hat with q | q
    · exact .inl (h.ug g (q.symm.trans hgg))
    · have := (own.lt g hgg).2
      rw [hgg] at q
      have := Option.some.inj q
      exact .inr ⟨by omega, by rw [hs]; omega⟩
  · intro g hgg q2
    rcases hat with q | q
    · exact h.ne g hgg (q.symm.trans q2)
    · rw [q2] at q
      have := Option.some.inj q
      have := foot g (h.ul g hgg)
      omega
  · rw [cell_blk me15]; rfl
end
def RrPutPost (w : World) (m cap : Nat) (L : List (List UInt8)) (bg : Bool) (lo : Nat) (U : Nat → Prop) (s : List UInt8) (a : Ending) (w' : World) : Prop :=
  (∃ e : Int, a = .returned (.int .i64 e)) ∧ Rr w' m cap (putL cap L s) bg (lo + putN cap L s) (grow U w w') ∧ Only U w w'
set_option maxHeartbeats 4000000 in
theorem rrput_any {w : World} {m cap : Nat} {L : List (List UInt8)} {bg : Bool} {lo : Nat} {U : Nat → Prop} (h : Rr w m cap L bg lo U) (s : ByteArray) (hcap : cap ≤ 1048576) (hlo : lo + 1 ≤ 1000000) (hl : L.flatten.length ≤ cap) (hll : L.length ≤ 1000000) :
    Calls Try.prog 44 #[.pointer (some ⟨m, 0, none⟩), .string s] w (RrPutPost w m cap L bg lo U s.data.toList) := by
  have es : s.data.toList.length = s.size := by simp
  by_cases hb : s.size < 1 ∨ 179 < s.size
  · have hE : putE cap L s.data.toList = 1 := by unfold putE; rw [es, if_pos (by omega)]
    have hS : Rr w m cap (putL cap L s.data.toList) bg (lo + putN cap L s.data.toList) (grow U w w) := by
      unfold putL putN
      rw [hE, if_neg (by decide), if_neg (by decide)]
      exact h.same
    have HS := Lib.hid hS
    clear hS hE
    by_cases n1 : (s.size : Int) < 1
    · go_enter Try.func44, Try.ntmps44
      go_wp2_with fail
      go_ret
      exact ⟨⟨_, rfl⟩, HS.out, Only.refl _ _⟩
    · have n2 : (179 : Int) < s.size := by omega
      go_enter Try.func44, Try.ntmps44
      go_wp2_with fail
      go_ret
      exact ⟨⟨_, rfl⟩, HS.out, Only.refl _ _⟩
  · have n1 : ¬ (s.size : Int) < 1 := by omega
    have n2 : ¬ (179 : Int) < s.size := by omega
    obtain ⟨i0, hi, hz0, hz1, hz2⟩ := info_partsS info_str
    have hu : ∀ a, Calls Try.prog 45 #[.pointer (some ⟨m, 0, none⟩)] (w.drewN a) (fun e w'' => e = .returned (.int .i64 L.flatten.length) ∧ ∃ m, w'' = w.drewN m) := fun a => (rrused_any (h.below (kept_drewN w a)) (by omega) (by omega)).mono fun e w' h => ⟨h.1, a, h.2.symm⟩
    obtain ⟨lv, gv, GL, b⟩ := id h.b
    obtain ⟨la, lc, rfl⟩ := owns_form b.ol
    obtain ⟨ga, gc, rfl⟩ := owns_form b.og
    have y0 := b.cells 0
    have y1 := b.cells 1
    have y2 := b.cells 2
    have y3 := b.cells 3
    simp only [rrCells, List.getElem?_toArray, List.getElem?_cons_succ, List.getElem?_cons_zero] at y0 y1 y2 y3
    obtain ⟨Q, hQ⟩ : ∃ Q, Q = L.flatten.length := ⟨_, rfl⟩
    rw [← hQ] at hu hl
    have HQ := Lib.hid hQ
    clear hQ
    have hfirst : bg = true → ∃ g x, la = some ⟨g, 0, none⟩ ∧ 0 < L.length ∧ w.cell? ⟨g, 0, none⟩ = some (.string x) ∧ x.size ≤ 1000000000 := by
      intro hbg
      have hne := b.bgn hbg
      have hp := List.length_pos_iff.2 hne
      obtain ⟨g, c, hlv, _, _, _, hc⟩ := b.at hp
      simp only [Value.slice.injEq] at hlv
      refine ⟨g, _, hlv.1, hp, hc 0 hp, ?_⟩
      rw [toB_size]
      have h1 := take_flatR hp
      have h2 := flat_leR L (0 + 1)
      have := HQ.out
      omega
    go_enter Try.func44, Try.ntmps44
    cases bg
    case true =>
      obtain ⟨g0, x0, hla, hlp, d0, hx0⟩ := hfirst rfl
      subst hla
      have hlp' : (0 : Int) < L.length := by omega
      clear hfirst
      go_wp2_with fail
      go_loopg [27] (0) (fun g u wr => wr = w)
      case atStart => rfl
      case round =>
        have hrel2 : w = wr := hrel.symm
        subst hrel2
        by_cases hf : cap < Q + s.size
        · have hE : putE cap L s.data.toList = 7 := by unfold putE; rw [es, if_neg (by omega), if_pos (by rw [← HQ.out]; omega)]
          obtain ⟨d, hd⟩ : ∃ d : Nat, d = cap - Q := ⟨_, rfl⟩
          have hd2 : (cap : Int) - Q = d := by omega
          have hd3 : decide ((d : Int) < s.size) = true := decide_eq_true (by omega)
          have HE := Lib.hid hE
          clear hE
          go_upto_region 8 with fail
          go_quiet (exact hu _)
          have bD := b.below (kept_drewN w nq)
          have y4 := bD.cells 4
          have z4 := bD.frozen 4
          simp only [rrCells, List.getElem?_toArray, List.getElem?_cons_succ, List.getElem?_cons_zero] at y4
          go_upto_region 11 with fail
          rw [show ((lo : Int) + 1) = ((lo + 1 : Nat) : Int) by omega]
          have b4 := bD.setLo (lo + 1) (by omega) hlo
          have on4 : Only U w ((w.drewN nq).setCell ⟨m, 4, none⟩ (.int .u64 ((lo + 1 : Nat) : Int))) := (Only.ofDrewN U w nq).setCell _ _ fun _ => b.um
          have s4 : ((w.drewN nq).setCell ⟨m, 4, none⟩ (.int .u64 ((lo + 1 : Nat) : Int))).heap.size = w.heap.size := by simp [World.setCell]
          generalize (w.drewN nq).setCell ⟨m, 4, none⟩ (.int .u64 ((lo + 1 : Nat) : Int)) = w4 at *
          have hal4 := (Below.refl w4.heap.size w4).alloc (Nat.le_refl _) (.cells #[.string s] 9)
          have b5 := b4.below hal4
          have ft5 : ∀ k, U k → k < (w4.alloc (.cells #[.string s] 9)).heap.size := fun k hk => by have := h.foot k hk; have := hal4.size; omega
          obtain ⟨GN, hGN⟩ : ∃ GN, GN = GL.length := ⟨_, rfl⟩
          have hown5 := b5.og
          have hgl := b.gl
          have y5 := b4.cells 5
          simp only [rrCells, List.getElem?_toArray, List.getElem?_cons_succ, List.getElem?_cons_zero] at y5
          rw [← hGN] at hown5 y5 hgl
          have hsr := src_str s (heap_alloc_new w4 (.cells #[.string s] 9))
          have HGN := Lib.hid (And.intro hGN (And.intro b5 on4))
          have HS4 := Lib.hid s4
          clear hGN b4 y4 z4 bD b5 on4 hu y0 y1 y2 y3 s4
          go_wp2_with (at_builtin; (refine list_append rfl (.tmp 64) (.tmp 66) 62 rfl 0 (Nat.zero_le _) 9 i0 _ 1 16 ul_strs hi hz0 hz1 hz2 rfl (by decide) (.slice ga GN gc) GN (sv GL) rfl hown5 _ 1 (sv [s]) rfl rfl hsr (sv_one _) (by unfold maxLen; omega) (by omega) ?_); intro ao8 cp8 w15 hown8 hg8 hat8; have hap := HGN.out.2.1.app_g (v' := .slice ao8 (GN + 1) cp8) (s := s) (by rw [← HGN.out.1]; omega) ft5 (by rw [← HGN.out.1]; exact hg8) (by rw [← HGN.out.1]; exact hown8) (by rw [← HGN.out.1]; exact hat8); have y5' := hap.2.2.1; rw [← HGN.out.1] at y5'; have z5' := hap.2.2.2; have HAP := Lib.hid hap; clear hap hown8 hg8 hat8)
          try simp only [Exit.noGoto]
          go_ret
          obtain ⟨bF, onF, _⟩ := HAP.out
          have onW : Only U w _ := (HGN.out.2.2.trans (Only.of_below hal4 U) fun _ _ q => q).trans onF fun _ _ q => q
          refine ⟨⟨_, rfl⟩, ?_, onW⟩
          unfold putL putN
          rw [HE.out, if_neg (by decide), if_pos rfl]
          refine ⟨⟨_, _, _, bF.mono ?_⟩, grow_lt h.foot onW.size⟩
          rintro k (q | q)
          · exact .inl q
          · exact .inr ⟨by have := hal4.size; have := HS4.out; have := q.1; omega, q.2⟩
        · have hE : putE cap L s.data.toList = 0 := by unfold putE; rw [es, if_neg (by omega), if_neg (by rw [← HQ.out]; omega)]
          obtain ⟨d, hd⟩ : ∃ d : Nat, d = cap - Q := ⟨_, rfl⟩
          have hd2 : (cap : Int) - Q = d := by omega
          have hd3 : decide ((d : Int) < s.size) = false := decide_eq_false (by omega)
          have HE := Lib.hid hE
          clear hE
          go_upto_region 8 with fail
          go_quiet (exact hu _)
          have bD := b.below (kept_drewN w nq)
          have hal4 := (Below.refl (w.drewN nq).heap.size (w.drewN nq)).alloc (Nat.le_refl _) (.cells #[.string s] 9)
          have b5 := bD.below hal4
          have ft5 : ∀ k, U k → k < ((w.drewN nq).alloc (.cells #[.string s] 9)).heap.size := fun k hk => Nat.lt_of_lt_of_le (h.foot k hk) hal4.size
          obtain ⟨LN, hLN⟩ : ∃ LN, LN = L.length := ⟨_, rfl⟩
          have hown5 := b5.ol
          rw [← hLN] at hown5 y2 hll
          have hsr := src_str s (heap_alloc_new (w.drewN nq) (.cells #[.string s] 9))
          have HLN := Lib.hid (And.intro hLN b5)
          clear hLN bD b5 hu
          go_wp2_with (at_builtin; (refine list_append rfl (.tmp 117) (.tmp 119) 62 rfl 0 (Nat.zero_le _) 9 i0 _ 1 16 ul_strs hi hz0 hz1 hz2 rfl (by decide) (.slice (some ⟨g0, 0, none⟩) LN lc) LN (sv (bL L)) rfl hown5 _ 1 (sv [s]) rfl rfl hsr (sv_one _) (by unfold maxLen; omega) (by omega) ?_); intro ao8 cp8 w15 hown8 hg8 hat8; have hap := HLN.out.2.app_l (v' := .slice ao8 (LN + 1) cp8) (s := s) ft5 (by rw [← HLN.out.1]; exact hg8) (by rw [← HLN.out.1]; exact hown8) (by rw [← HLN.out.1]; exact hat8); have y5' := hap.2.2.1; rw [← HLN.out.1] at y5'; have z5' := hap.2.2.2; have HAP := Lib.hid hap; clear hap hown8 hg8 hat8)
          try simp only [Exit.noGoto]
          go_ret
          obtain ⟨bF, onF, _⟩ := HAP.out
          have onW : Only U w _ := ((Only.ofDrewN U w nq).trans (Only.of_below hal4 U) fun _ _ q => q).trans onF fun _ _ q => q
          refine ⟨⟨_, rfl⟩, ?_, onW⟩
          unfold putL putN
          rw [HE.out, if_pos rfl, if_neg (by decide)]
          refine ⟨⟨_, _, _, bF.mono ?_⟩, grow_lt h.foot onW.size⟩
          rintro k (q | q)
          · exact .inl q
          · exact .inr ⟨Nat.le_trans hal4.size q.1, q.2⟩
    case false =>
      clear hfirst
      go_wp2_with fail
      go_loopg [27] (0) (fun g u wr => wr = w)
      case atStart => rfl
      case round =>
        have hrel2 : w = wr := hrel.symm
        subst hrel2
        by_cases hf : cap < Q + s.size
        · have hE : putE cap L s.data.toList = 7 := by unfold putE; rw [es, if_neg (by omega), if_pos (by rw [← HQ.out]; omega)]
          obtain ⟨d, hd⟩ : ∃ d : Nat, d = cap - Q := ⟨_, rfl⟩
          have hd2 : (cap : Int) - Q = d := by omega
          have hd3 : decide ((d : Int) < s.size) = true := decide_eq_true (by omega)
          have HE := Lib.hid hE
          clear hE
          go_upto_region 8 with fail
          go_quiet (exact hu _)
          have bD := b.below (kept_drewN w nq)
          have y4 := bD.cells 4
          have z4 := bD.frozen 4
          simp only [rrCells, List.getElem?_toArray, List.getElem?_cons_succ, List.getElem?_cons_zero] at y4
          go_upto_region 11 with fail
          rw [show ((lo : Int) + 1) = ((lo + 1 : Nat) : Int) by omega]
          have b4 := bD.setLo (lo + 1) (by omega) hlo
          have on4 : Only U w ((w.drewN nq).setCell ⟨m, 4, none⟩ (.int .u64 ((lo + 1 : Nat) : Int))) := (Only.ofDrewN U w nq).setCell _ _ fun _ => b.um
          have s4 : ((w.drewN nq).setCell ⟨m, 4, none⟩ (.int .u64 ((lo + 1 : Nat) : Int))).heap.size = w.heap.size := by simp [World.setCell]
          generalize (w.drewN nq).setCell ⟨m, 4, none⟩ (.int .u64 ((lo + 1 : Nat) : Int)) = w4 at *
          have hal4 := (Below.refl w4.heap.size w4).alloc (Nat.le_refl _) (.cells #[.string s] 9)
          have b5 := b4.below hal4
          have ft5 : ∀ k, U k → k < (w4.alloc (.cells #[.string s] 9)).heap.size := fun k hk => by have := h.foot k hk; have := hal4.size; omega
          obtain ⟨GN, hGN⟩ : ∃ GN, GN = GL.length := ⟨_, rfl⟩
          have hown5 := b5.og
          have hgl := b.gl
          have y5 := b4.cells 5
          simp only [rrCells, List.getElem?_toArray, List.getElem?_cons_succ, List.getElem?_cons_zero] at y5
          rw [← hGN] at hown5 y5 hgl
          have hsr := src_str s (heap_alloc_new w4 (.cells #[.string s] 9))
          have HGN := Lib.hid (And.intro hGN (And.intro b5 on4))
          have HS4 := Lib.hid s4
          clear hGN b4 y4 z4 bD b5 on4 hu y0 y1 y2 y3 s4
          go_wp2_with (at_builtin; (refine list_append rfl (.tmp 64) (.tmp 66) 62 rfl 0 (Nat.zero_le _) 9 i0 _ 1 16 ul_strs hi hz0 hz1 hz2 rfl (by decide) (.slice ga GN gc) GN (sv GL) rfl hown5 _ 1 (sv [s]) rfl rfl hsr (sv_one _) (by unfold maxLen; omega) (by omega) ?_); intro ao8 cp8 w15 hown8 hg8 hat8; have hap := HGN.out.2.1.app_g (v' := .slice ao8 (GN + 1) cp8) (s := s) (by rw [← HGN.out.1]; omega) ft5 (by rw [← HGN.out.1]; exact hg8) (by rw [← HGN.out.1]; exact hown8) (by rw [← HGN.out.1]; exact hat8); have y5' := hap.2.2.1; rw [← HGN.out.1] at y5'; have z5' := hap.2.2.2; have HAP := Lib.hid hap; clear hap hown8 hg8 hat8)
          try simp only [Exit.noGoto]
          go_ret
          obtain ⟨bF, onF, _⟩ := HAP.out
          have onW : Only U w _ := (HGN.out.2.2.trans (Only.of_below hal4 U) fun _ _ q => q).trans onF fun _ _ q => q
          refine ⟨⟨_, rfl⟩, ?_, onW⟩
          unfold putL putN
          rw [HE.out, if_neg (by decide), if_pos rfl]
          refine ⟨⟨_, _, _, bF.mono ?_⟩, grow_lt h.foot onW.size⟩
          rintro k (q | q)
          · exact .inl q
          · exact .inr ⟨by have := hal4.size; have := HS4.out; have := q.1; omega, q.2⟩
        · have hE : putE cap L s.data.toList = 0 := by unfold putE; rw [es, if_neg (by omega), if_neg (by rw [← HQ.out]; omega)]
          obtain ⟨d, hd⟩ : ∃ d : Nat, d = cap - Q := ⟨_, rfl⟩
          have hd2 : (cap : Int) - Q = d := by omega
          have hd3 : decide ((d : Int) < s.size) = false := decide_eq_false (by omega)
          have HE := Lib.hid hE
          clear hE
          go_upto_region 8 with fail
          go_quiet (exact hu _)
          have bD := b.below (kept_drewN w nq)
          have hal4 := (Below.refl (w.drewN nq).heap.size (w.drewN nq)).alloc (Nat.le_refl _) (.cells #[.string s] 9)
          have b5 := bD.below hal4
          have ft5 : ∀ k, U k → k < ((w.drewN nq).alloc (.cells #[.string s] 9)).heap.size := fun k hk => Nat.lt_of_lt_of_le (h.foot k hk) hal4.size
          obtain ⟨LN, hLN⟩ : ∃ LN, LN = L.length := ⟨_, rfl⟩
          have hown5 := b5.ol
          rw [← hLN] at hown5 y2 hll
          have hsr := src_str s (heap_alloc_new (w.drewN nq) (.cells #[.string s] 9))
          have HLN := Lib.hid (And.intro hLN b5)
          clear hLN bD b5 hu
          go_wp2_with (at_builtin; (refine list_append rfl (.tmp 117) (.tmp 119) 62 rfl 0 (Nat.zero_le _) 9 i0 _ 1 16 ul_strs hi hz0 hz1 hz2 rfl (by decide) (.slice la LN lc) LN (sv (bL L)) rfl hown5 _ 1 (sv [s]) rfl rfl hsr (sv_one _) (by unfold maxLen; omega) (by omega) ?_); intro ao8 cp8 w15 hown8 hg8 hat8; have hap := HLN.out.2.app_l (v' := .slice ao8 (LN + 1) cp8) (s := s) ft5 (by rw [← HLN.out.1]; exact hg8) (by rw [← HLN.out.1]; exact hown8) (by rw [← HLN.out.1]; exact hat8); have y5' := hap.2.2.1; rw [← HLN.out.1] at y5'; have z5' := hap.2.2.2; have HAP := Lib.hid hap; clear hap hown8 hg8 hat8)
          try simp only [Exit.noGoto]
          go_ret
          obtain ⟨bF, onF, _⟩ := HAP.out
          have onW : Only U w _ := ((Only.ofDrewN U w nq).trans (Only.of_below hal4 U) fun _ _ q => q).trans onF fun _ _ q => q
          refine ⟨⟨_, rfl⟩, ?_, onW⟩
          unfold putL putN
          rw [HE.out, if_pos rfl, if_neg (by decide)]
          refine ⟨⟨_, _, _, bF.mono ?_⟩, grow_lt h.foot onW.size⟩
          rintro k (q | q)
          · exact .inl q
          · exact .inr ⟨Nat.le_trans hal4.size q.1, q.2⟩
end Go.Proofs.Ytbfipgeoecbpaaa
