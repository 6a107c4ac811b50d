/- A recorder's Close; a recorder into a great ring; law23.fresh. No condition but those that each names. -/
import Derived.Test.YtbfipgeoecbpaaaRcP
import Derived.Test.YtbfipgeoecbpaaaRcN
namespace Go.Proofs.Ytbfipgeoecbpaaa
open Go.RowKit
set_option linter.unusedVariables false
set_option linter.unusedSimpArgs false
set_option maxRecDepth 20000
theorem grow_grow {F : Nat → Prop} {w w1 w2 : World} (h1 : w.heap.size ≤ w1.heap.size) (h2 : w1.heap.size ≤ w2.heap.size) : ∀ k, grow (grow F w w1) w1 w2 k → grow F w w2 k := by
  rintro k ((q | q) | q)
  · exact .inl q
  · exact .inr ⟨q.1, Nat.lt_of_lt_of_le q.2 h2⟩
  · exact .inr ⟨Nat.le_trans h1 q.1, q.2⟩
section
variable {w w' : World} {x tb rb room cap : Nat} {pol : Int} {R : Rcd} {L : List (List UInt8)} {lo : Nat} {F : Nat → Prop}
theorem FlRel.len {R R' : Rcd} {L' : List (List UInt8)} {lo' : Nat} (h : FlRel cap pol R R' L lo L' lo') : R'.fr.length ≤ R.fr.length + 1 := by
  rcases h with ⟨h, _⟩ | ⟨h, _⟩
  · rw [h]; omega
  · rw [h, List.length_append]; simp
theorem RecP.mono {G : Nat → Prop} (h : RecP w x tb rb room cap pol R L lo F) (hs : ∀ k, F k → G k) (hf : ∀ k, G k → k < w.heap.size) (ht : ¬ G tb) : RecP w x tb rb room cap pol R L lo G := by
  obtain ⟨vo, FR, m, hm⟩ := h.m
  exact ⟨⟨vo, FR, m, fun k hk => hs k (hm k hk)⟩, hf, ht⟩
theorem RecP.setCl (h : RecP w x tb rb room cap pol R L lo F) : RecP (w.setCell ⟨x, 12, none⟩ (.bool true)) x tb rb room cap pol { R with cl := true } L lo F ∧ Only F w (w.setCell ⟨x, 12, none⟩ (.bool true)) := by
  obtain ⟨vo, FR, m, hm⟩ := h.m
  have hFx : F x := hm x (.inl rfl)
  have o : Only (fun k => k = x) w (w.setCell ⟨x, 12, none⟩ (.bool true)) := (Only.refl (fun k => k = x) w).setCell ⟨x, 12, none⟩ (.bool true) fun _ => rfl
  refine ⟨⟨⟨vo, FR, ?_, hm⟩, fun k hk => Nat.lt_of_lt_of_le (h.foot k hk) o.size, h.tb⟩, o.mono fun k _ e => e ▸ hFx⟩
  exact { b := m.b.setCl true, tab := m.tab.only o (fun e => h.tb (e ▸ hFx)), ring := m.ring.only o (fun k hk e => m.xr (e ▸ hk)), xr := m.xr, tr := m.tr, vr := m.vr, inv := ⟨m.inv.op, m.inv.last, m.inv.fr⟩, rm := m.rm, pl := m.pl, cnt := m.cnt }
theorem RecP.clCell (h : RecP w x tb rb room cap pol R L lo F) : w.frozen? ⟨x, 12, none⟩ = false ∧ w.cell? ⟨x, 12, none⟩ = some (.bool R.cl) := by
  obtain ⟨vo, FR, m, hm⟩ := h.m
  have y := m.b.cells 12
  simp only [rcCells, List.getElem?_toArray, List.getElem?_cons_succ, List.getElem?_cons_zero] at y
  exact ⟨m.b.frozen 12, y⟩
def RClosePost (w : World) (x tb rb room cap : Nat) (pol : Int) (R : Rcd) (L : List (List UInt8)) (lo : Nat) (F : Nat → Prop) (cy ct : Nat) (a : Ending) (w' : World) : Prop :=
  a = .returned (.int .i64 (R.err (closeEv cy ct))) ∧ (∃ L1 lo1 L' lo', FlRel cap pol R (R.put room (closeEv cy ct)) L lo L1 lo1 ∧ FlRel cap pol (R.put room (closeEv cy ct)) (R.close room cy ct) L1 lo1 L' lo' ∧ RecP w' x tb rb room cap pol (R.close room cy ct) L' lo' (grow F w w')) ∧ Only F w w'
set_option maxHeartbeats 2000000 in
theorem rclose_any (hpa : PutsAs pol) (h : RecP w x tb rb room cap pol R L lo F) (hn : R.fr.length ≤ 90000) (cy ct : Nat) (h1 : cy < 18446744073709551616) (h2 : ct < 18446744073709551616) :
    Calls Try.prog 18 #[.pointer (some ⟨x, 0, none⟩), .int .u64 cy, .int .u64 ct] w (RClosePost w x tb rb room cap pol R L lo F cy ct) := by
  have hput := rput_any hpa h (by omega) (closeEv cy ct) (closeEv_wf h1 h2)
  obtain ⟨E, hE⟩ : ∃ E, E = R.err (closeEv cy ct) := ⟨_, rfl⟩
  have HE := Lib.hid hE
  unfold RPutPost at hput
  rw [← hE] at hput
  unfold Ev.val closeEv at hput
  dsimp only at hput
  clear hE
  go_enter Try.func18, Try.ntmps18
  go_upto_region 2 with (go_at_call 17; (refine hput.mono ?_); rintro a w1 ⟨rfl, L1, lo1, rel, P1, on1⟩)
  clear hput
  have P1 : RecP w1 x tb rb room cap pol (R.put room (closeEv cy ct)) L1 lo1 (grow F w w1) := P1
  have rel : FlRel cap pol R (R.put room (closeEv cy ct)) L lo L1 lo1 := rel
  by_cases he : E = 0
  · subst he
    have hcl : R.close room cy ct = { (R.put room (closeEv cy ct)).flush with cl := true } := if_neg (fun q => q HE.out.symm)
    have hfl := flush_any hpa P1 (by have := rel.len; omega)
    have HP := Lib.hid (And.intro hcl (And.intro rel (And.intro on1 h)))
    clear hcl rel on1 h P1
    go_upto_region 5 with (go_at_call 15; (with_reducible refine hfl.mono ?_); rintro a w2 ⟨rfl, L2, lo2, rel2, P2, on2⟩)
    obtain ⟨z1, z2⟩ := P2.clCell
    go_wp2_with fail
    obtain ⟨P3, on3⟩ := P2.setCl
    obtain ⟨hcl, rel, on1, h⟩ := HP.out
    have s12 := on2.size
    have s01 := on1.size
    have s23 := on3.size
    go_ret
    have on12 : Only F w w2 := on1.trans on2 fun k hk q => by
      rcases q with q | q
      · exact q
      · omega
    have on123 : Only F w _ := on12.trans on3 fun k hk q => by
      have := grow_grow s01 s12 k q
      rcases this with q | q
      · exact q
      · omega
    refine ⟨by rw [← HE.out]; rfl, ⟨L1, lo1, L2, lo2, rel, ?_, ?_⟩, on123⟩
    · rw [hcl]; exact rel2
    · rw [hcl]
      refine P3.mono (fun k hk => ?_) (grow_lt h.foot on123.size) (grow_tb h)
      have := grow_grow s01 s12 k hk
      rcases this with q | q
      · exact .inl q
      · exact .inr ⟨q.1, Nat.lt_of_lt_of_le q.2 s23⟩
  · have hz : (E != 0) = true := by simp [he]
    have hcl : R.close room cy ct = R := if_pos (fun q => he (HE.out.trans q))
    have hpt : R.put room (closeEv cy ct) = R := if_pos (fun q => he (HE.out.trans q))
    have HP := Lib.hid (And.intro hcl (And.intro hpt (And.intro rel (And.intro on1 P1))))
    clear hcl hpt rel on1 P1
    go_wp2_with fail
    obtain ⟨hcl, hpt, rel, on1, P1⟩ := HP.out
    go_ret
    refine ⟨by rw [← HE.out]; rfl, ⟨L1, lo1, L1, lo1, rel, ?_, ?_⟩, on1⟩
    · rw [hcl, hpt]; exact .inl ⟨rfl, rfl, rfl⟩
    · rw [hcl]; rw [hpt] at P1; exact P1
end
/-! ### A recorder into a great ring -/
theorem FlRel.great {room : Nat} {R R' : Rcd} {L' : List (List UInt8)} {lo' : Nat} (h : FlRel 1048576 0 R R' (txt 0 R.fr) 0 L' lo') (hi : R.Inv room) (hr : room ≤ 120) (hn : R.fr.length ≤ 5000) : L' = txt 0 R'.fr ∧ lo' = 0 := by
  rcases h with ⟨h1, h2, h3⟩ | ⟨h1, h2, h3⟩
  · rw [h1]; exact ⟨h2, h3⟩
  · obtain ⟨k1, k2, k3⟩ := hi.op h2
    have hl := frT_len (seq := R.fr.length) k1 h2 (by omega)
    have hs := txt_sum hr R.fr 0 hi.fr
    obtain ⟨q1, q2⟩ := h3.room (by omega) (by omega) (by omega)
    rw [h1, q1, txt_snoc, Nat.zero_add]
    exact ⟨rfl, q2⟩
structure GRec (w : World) (x rb room : Nat) (R : Rcd) (O : Nat → Prop) : Prop where
  p : ∃ tb F, RecP w x tb rb room 1048576 0 R (txt 0 R.fr) 0 F ∧ (∀ k, F k → O k) ∧ O tb
  foot : ∀ k, O k → k < w.heap.size
theorem RecP.inv {w : World} {x tb rb room cap : Nat} {pol : Int} {R : Rcd} {L : List (List UInt8)} {lo : Nat} {F : Nat → Prop} (h : RecP w x tb rb room cap pol R L lo F) : R.Inv room ∧ room ≤ 120 ∧ 20 ≤ room := by
  obtain ⟨vo, FR, m, _⟩ := h.m
  exact ⟨m.inv, m.rm.2, m.rm.1⟩
theorem RecP.ringP {w : World} {x tb rb room cap : Nat} {pol : Int} {R : Rcd} {L : List (List UInt8)} {lo : Nat} {F : Nat → Prop} (h : RecP w x tb rb room cap pol R L lo F) : ∃ FR, RingL w rb cap pol L false lo FR ∧ (∀ k, FR k → F k) ∧ lo + L.length = R.fr.length := by
  obtain ⟨vo, FR, m, hf⟩ := h.m
  exact ⟨FR, m.ring, fun k hk => hf k (.inr (.inr hk)), m.cnt⟩
section
variable {w w' : World} {x rb room : Nat} {R : Rcd} {O : Nat → Prop}
theorem GRec.inv (h : GRec w x rb room R O) : R.Inv room ∧ room ≤ 120 ∧ 20 ≤ room := by
  obtain ⟨tb, F, p, _⟩ := h.p
  exact p.inv
theorem GRec.only {S : Nat → Prop} (h : GRec w x rb room R O) (o : Only S w w') (hn : ∀ k, O k → ¬ S k) : GRec w' x rb room R O := by
  obtain ⟨tb, F, p, hF, ht⟩ := h.p
  exact ⟨⟨tb, F, p.only o (fun k hk => hn k (hF k hk)) (hn tb ht), hF, ht⟩, fun k hk => Nat.lt_of_lt_of_le (h.foot k hk) o.size⟩
theorem GRec.below (h : GRec w x rb room R O) (k : Below w.heap.size w w') : GRec w' x rb room R O := h.only (Only.of_below k (fun _ => False)) fun _ _ x => x
theorem GRec.step {tb : Nat} {F : Nat → Prop} {R' : Rcd} {L' : List (List UInt8)} {lo' : Nat} (h : GRec w x rb room R O) (hF : ∀ k, F k → O k) (ht : O tb) (hn : R.fr.length ≤ 5000) (rel : FlRel 1048576 0 R R' (txt 0 R.fr) 0 L' lo') (p : RecP w' x tb rb room 1048576 0 R' L' lo' (grow F w w')) (on : Only F w w') : GRec w' x rb room R' (grow O w w') ∧ Only O w w' := by
  obtain ⟨rfl, rfl⟩ := rel.great h.inv.1 h.inv.2.1 hn
  refine ⟨⟨⟨tb, _, p, ?_, .inl ht⟩, grow_lt h.foot on.size⟩, on.mono fun k _ hk => hF k hk⟩
  rintro k (q | q)
  · exact .inl (hF k q)
  · exact .inr q
theorem gput_any (h : GRec w x rb room R O) (hn : R.fr.length ≤ 5000) (e : Ev) (he : e.Wf) : Calls Try.prog 17 #[.pointer (some ⟨x, 0, none⟩), e.val] w fun a w' => a = .returned (.int .i64 (R.err e)) ∧ GRec w' x rb room (R.put room e) (grow O w w') ∧ Only O w w' := by
  obtain ⟨tb, F, p, hF, ht⟩ := h.p
  refine (rput_any putsAs0 p (by omega) e he).mono ?_
  rintro a w1 ⟨rfl, L', lo', rel, p1, on⟩
  obtain ⟨g, o⟩ := h.step hF ht hn rel p1 on
  exact ⟨rfl, g, o⟩
theorem gflush_any (h : GRec w x rb room R O) (hn : R.fr.length ≤ 5000) : Calls Try.prog 15 #[.pointer (some ⟨x, 0, none⟩)] w fun a w' => a = .returned (.tuple #[]) ∧ GRec w' x rb room R.flush (grow O w w') ∧ Only O w w' := by
  obtain ⟨tb, F, p, hF, ht⟩ := h.p
  refine (flush_any putsAs0 p (by omega)).mono ?_
  rintro a w1 ⟨rfl, L', lo', rel, p1, on⟩
  obtain ⟨g, o⟩ := h.step hF ht hn rel p1 on
  exact ⟨rfl, g, o⟩
theorem gclose_any (h : GRec w x rb room R O) (hn : R.fr.length ≤ 4000) (cy ct : Nat) (h1 : cy < 18446744073709551616) (h2 : ct < 18446744073709551616) : Calls Try.prog 18 #[.pointer (some ⟨x, 0, none⟩), .int .u64 cy, .int .u64 ct] w fun a w' => a = .returned (.int .i64 (R.err (closeEv cy ct))) ∧ GRec w' x rb room (R.close room cy ct) (grow O w w') ∧ Only O w w' := by
  obtain ⟨tb, F, p, hF, ht⟩ := h.p
  refine (rclose_any putsAs0 p (by omega) cy ct h1 h2).mono ?_
  rintro a w1 ⟨rfl, ⟨L1, lo1, L', lo', rel, rel2, p1⟩, on⟩
  obtain ⟨rfl, rfl⟩ := rel.great h.inv.1 h.inv.2.1 (by omega)
  have hi := h.inv
  obtain ⟨rfl, rfl⟩ := rel2.great (hi.1.put (closeEv_wf h1 h2) hi.2.2) hi.2.1 (by have := rel.len; omega)
  refine ⟨rfl, ⟨⟨tb, _, p1, ?_, .inl ht⟩, grow_lt h.foot on.size⟩, on.mono fun k _ hk => hF k hk⟩
  rintro k (q | q)
  · exact .inl (hF k q)
  · exact .inr q
theorem gframes_any (h : GRec w x rb room R O) : Calls Try.prog 19 #[.pointer (some ⟨x, 0, none⟩)] w fun e w' => e = .returned (.int .i64 R.fr.length) ∧ w = w' := by
  obtain ⟨tb, F, p, _⟩ := h.p
  exact frames_any p
theorem gopen_any (h : GRec w x rb room R O) : Calls Try.prog 20 #[.pointer (some ⟨x, 0, none⟩)] w fun e w' => e = .returned (.int .i64 R.op.length) ∧ w = w' := by
  obtain ⟨tb, F, p, _⟩ := h.p
  exact open_any p
theorem GRec.ring (h : GRec w x rb room R O) : ∃ FR, RingL w rb 1048576 0 (txt 0 R.fr) false 0 FR ∧ ∀ k, FR k → O k := by
  obtain ⟨tb, F, p, hF, _⟩ := h.p
  obtain ⟨FR, r, hf, _⟩ := p.ringP
  exact ⟨FR, r, fun k hk => hF k (hf k hk)⟩
theorem gheld_any (h : GRec w x rb room R O) : Calls Try.prog 22 #[.pointer (some ⟨rb, 0, none⟩)] w fun e w' => e = .returned (.int .i64 R.fr.length) ∧ w = w' := by
  obtain ⟨FR, r, _⟩ := h.ring
  have := qheld_any r
  rw [txt_len] at this
  exact this
/-- The bytes of all frames that were made. -/
def Rcd.all (R : Rcd) : List UInt8 := (txt 0 R.fr).flatten
theorem gused_any (h : GRec w x rb room R O) : Calls Try.prog 26 #[.pointer (some ⟨rb, 0, none⟩)] w fun e w' => e = .returned (.int .i64 R.all.length) ∧ w = w' := by
  obtain ⟨FR, r, _⟩ := h.ring
  exact qused_any r
theorem GRec.all_le (h : GRec w x rb room R O) : R.all.length ≤ 1048576 := by
  obtain ⟨FR, r, _⟩ := h.ring
  exact r.len.1
theorem gdrain_any (h : GRec w x rb room R O) : Calls Try.prog 25 #[.pointer (some ⟨rb, 0, none⟩), .int .i64 R.all.length] w fun e w' => e = .returned (.string ⟨R.all.toArray⟩) ∧ (∃ FR L bg, RingL w' rb 1048576 0 L bg 0 FR ∧ ∀ k, FR k → O k) ∧ Only O w w' := by
  have hl := h.all_le
  obtain ⟨FR, r, hf⟩ := h.ring
  refine (qdrain_any r R.all.length (by omega) (by omega)).mono ?_
  rintro e w1 ⟨rfl, r1, on⟩
  have e : min (R.all.length : Int).toNat (txt 0 R.fr).flatten.length = R.all.length := by
    show min _ R.all.length = _
    omega
  rw [e] at r1 ⊢
  refine ⟨?_, ⟨FR, _, _, r1, hf⟩, on.mono fun k _ hk => hf k hk⟩
  show Ending.returned (.string ⟨(R.all.take R.all.length).toArray⟩) = _
  rw [List.take_length]
end
/-! ### How many frames there can be -/
def Rcd.cnt (R : Rcd) : Nat := R.fr.length + if R.op = [] then 0 else 1
theorem cnt_flush (R : Rcd) : R.flush.cnt = R.cnt := by
  unfold Rcd.flush
  split
  · rfl
  · rename_i h
    unfold Rcd.cnt
    rw [if_neg h, if_pos rfl, List.length_append]; rfl
theorem cnt_fl (room : Nat) (R : Rcd) (e : Ev) : (R.fl room e).cnt = R.cnt := by
  unfold Rcd.fl
  split
  · rfl
  · exact cnt_flush R
theorem cnt_put (room : Nat) (R : Rcd) (e : Ev) : (R.put room e).cnt ≤ R.cnt + 1 := by
  unfold Rcd.put
  split
  · omega
  · have := cnt_fl room R e
    unfold Rcd.cnt at this ⊢
    show (R.fl room e).fr.length + (if (R.fl room e).op ++ [e] = [] then 0 else 1) ≤ _
    rw [if_neg (by simp)]
    by_cases h1 : (R.fl room e).op = []
    · by_cases h2 : R.op = []
      · rw [if_pos h1, if_pos h2] at this; rw [if_pos h2]; omega
      · rw [if_pos h1, if_neg h2] at this; rw [if_neg h2]; omega
    · by_cases h2 : R.op = []
      · rw [if_neg h1, if_pos h2] at this; rw [if_pos h2]; omega
      · rw [if_neg h1, if_neg h2] at this; rw [if_neg h2]; omega
theorem cnt_close (room : Nat) (R : Rcd) (cy ct : Nat) : (R.close room cy ct).cnt ≤ R.cnt + 1 := by
  unfold Rcd.close
  split
  · omega
  · have h := cnt_put room R (closeEv cy ct)
    have := cnt_flush (R.put room (closeEv cy ct))
    show Rcd.cnt { (R.put room (closeEv cy ct)).flush with cl := true } ≤ _
    unfold Rcd.cnt at this h ⊢
    show (R.put room (closeEv cy ct)).flush.fr.length + (if (R.put room (closeEv cy ct)).flush.op = [] then 0 else 1) ≤ _
    omega
theorem cnt_le (R : Rcd) : R.fr.length ≤ R.cnt := by unfold Rcd.cnt; omega
/-! ### law23.fresh -/
theorem fresh_any (room : Nat) (h1 : 20 ≤ room) (h2 : room ≤ 120) (w : World) : Calls Try.prog 21 #[.int .i64 room] w fun a w' => ∃ x rb O, a = .returned (.tuple #[.pointer (some ⟨x, 0, none⟩), .pointer (some ⟨rb, 0, none⟩)]) ∧ GRec w' x rb room rcd0 O ∧ (∀ k, O k → w.heap.size ≤ k) ∧ Below w.heap.size w w' := by
  go_enter Try.func21, Try.ntmps21
  go_wp2_with fail
  refine (qnew_any 1048576 0 (.inl rfl) (by decide) (by decide) _).mono ?_
  rintro e w1 ⟨rfl, hR, hk1⟩
  obtain ⟨rb, hrb⟩ : ∃ rb, rb = w.heap.size + 1 := ⟨_, rfl⟩
  rw [← hrb] at hR
  go_wp2_with fail
  refine (make_any _).mono ?_
  rintro e w2 ⟨rfl, hT, hk2⟩
  have hR2 := hR.below hk2
  have hk12 := hk1.trans (hk2.mono hk1.size)
  have hnew := rcnew_any hT hR2 (by rintro (q | q) <;> · have := hR.foot _ (show NewFoot w w1.heap.size from (by first | exact .inl q | exact .inr q)); omega) (.inl rfl) room h1 h2
  go_wp2_with fail
  try rw [← hrb]
  refine hnew.mono ?_
  rintro e w3 ⟨rfl, hP, hk3⟩
  have hk := hk12.trans (hk3.mono hk12.size)
  have HP := Lib.hid (And.intro hP (And.intro hk (And.intro hk1.size (And.intro hk2.size (And.intro hk3.size (And.intro (blk_lt hT.choose_spec.1) (hR.foot _ (.inr rfl))))))))
  clear hP hk hk12 hk3 hR2 hT hR hnew
  go_wp2_with fail
  go_ret2
  obtain ⟨hP, hk, s1, s2, s3, htl, hnf⟩ := HP.out
  refine ⟨w2.heap.size, rb, fun k => w.heap.size ≤ k ∧ k < w3.heap.size, by rw [hrb]; rfl, ⟨⟨_, _, hP, ?_, ?_⟩, fun k q => q.2⟩, fun k q => q.1, hk⟩
  · rintro k ((q | q) | q) <;> constructor <;> omega
  · constructor <;> omega
theorem fresh_bad (room : Int) (h : room < 20 ∨ 120 < room) (w : World) : Calls Try.prog 21 #[.int .i64 room] w fun a w' => ∃ rb, a = .returned (.tuple #[.pointer none, .pointer (some ⟨rb, 0, none⟩)]) ∧ Below w.heap.size w w' := by
  go_enter Try.func21, Try.ntmps21
  go_wp2_with fail
  refine (qnew_any 1048576 0 (.inl rfl) (by decide) (by decide) _).mono ?_
  rintro e w1 ⟨rfl, hR, hk1⟩
  go_wp2_with fail
  refine (make_any _).mono ?_
  rintro e w2 ⟨rfl, hT, hk2⟩
  go_wp2_with fail
  refine (rcnew_bad _ _ _ _ h).mono ?_
  rintro e w3 ⟨rfl, rfl⟩
  go_wp2_with fail
  go_ret2
  exact ⟨_, rfl, hk1.trans (hk2.mono hk1.size)⟩
end Go.Proofs.Ytbfipgeoecbpaaa
