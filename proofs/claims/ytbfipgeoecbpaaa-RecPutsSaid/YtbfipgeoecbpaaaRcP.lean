/- A recorder's Put. No condition but those that each names. -/
import Derived.Test.YtbfipgeoecbpaaaRcF
import Derived.Deep.CutRange
namespace Go.Proofs.Ytbfipgeoecbpaaa
open Go.RowKit
set_option linter.unusedVariables false
set_option linter.unusedSimpArgs false
set_option maxRecDepth 20000
section
variable {w w' : World} {x tb rb room cap : Nat} {pol : Int} {R : Rcd} {L : List (List UInt8)} {lo : Nat} {F : Nat → Prop}
def RPutPost (w : World) (x tb rb room cap : Nat) (pol : Int) (R : Rcd) (L : List (List UInt8)) (lo : Nat) (F : Nat → Prop) (e : Ev) (a : Ending) (w' : World) : Prop :=
  a = .returned (.int .i64 (R.err e)) ∧ ∃ L' lo', FlRel cap pol R (R.put room e) L lo L' lo' ∧ RecP w' x tb rb room cap pol (R.put room e) L' lo' (grow F w w') ∧ Only F w w'
theorem six_set {w : World} {b : Nat} {e f : Ev} {T : TypeId} {S : Nat → Prop} {w0 : World} (h : w.heap[b]? = some (.cells e.cells.toArray T (0, 0))) (on : Only S w0 w) (hb : b < w0.heap.size → S b) :
    ((((((w.setCell ⟨b, 0, none⟩ (.int .i64 f.k)).setCell ⟨b, 1, none⟩ (.int .u64 f.cy)).setCell ⟨b, 2, none⟩ (.int .u64 f.ct)).setCell ⟨b, 3, none⟩ (.int .u32 f.a)).setCell ⟨b, 4, none⟩ (.int .u32 f.b)).setCell ⟨b, 5, none⟩ (.int .u32 f.v)).heap[b]? = some (.cells f.cells.toArray T (0, 0)) ∧
    Only S w0 ((((((w.setCell ⟨b, 0, none⟩ (.int .i64 f.k)).setCell ⟨b, 1, none⟩ (.int .u64 f.cy)).setCell ⟨b, 2, none⟩ (.int .u64 f.ct)).setCell ⟨b, 3, none⟩ (.int .u32 f.a)).setCell ⟨b, 4, none⟩ (.int .u32 f.b)).setCell ⟨b, 5, none⟩ (.int .u32 f.v)) := by
  refine ⟨?_, (((((on.setCell _ _ hb).setCell _ _ hb).setCell _ _ hb).setCell _ _ hb).setCell _ _ hb).setCell _ _ hb⟩
  have a1 := blk_setCell h (i := 0) (.int .i64 f.k)
  have a2 := blk_setCell a1 (i := 1) (.int .u64 f.cy)
  have a3 := blk_setCell a2 (i := 2) (.int .u64 f.ct)
  have a4 := blk_setCell a3 (i := 3) (.int .u32 f.a)
  have a5 := blk_setCell a4 (i := 4) (.int .u32 f.b)
  have a6 := blk_setCell a5 (i := 5) (.int .u32 f.v)
  exact a6.trans (by simp [Ev.cells])
theorem fits_iff {room : Nat} {R : Rcd} {e : Ev} (h : e.chk = 0) : R.fits room e = true ↔ szV R.last e ≠ 0 ∧ (lB R.op).length + szV R.last e ≤ room := by
  unfold Rcd.fits szV
  have := evb_pos R.last e
  cases hs : (Stp R.last e).2.2
  · simp
  · simp only [Bool.true_and, decide_eq_true_eq, h, true_and, and_true, if_true]
    omega
theorem RcB.mkOp {w : World} {x tb rb room : Nat} {vo v : Value} {l : List Ev} {sz : Nat} {e : Ev} {n : Nat} {cl : Bool} (me : w.heap[x]? = some (.cells (rcCells tb rb room vo sz e n cl) 102 (0, 0))) (ho : w.ownsRow 0 25 6 v l.length (evCells l)) : RcB (w.setCell ⟨x, 3, none⟩ v) x tb rb room v l sz e n cl := by
  refine ⟨(blk_setCell me (i := 3) _).trans (by simp [rcCells]), own_keep ho fun g hg => Below.heap_setCell _ _ _ _ (fun q => ?_)⟩
  obtain ⟨C, hc⟩ := own_ty ho hg
  rw [← show g = x from q, hc] at me
  simp only [Option.some.injEq, Obj.cells.injEq] at me
  exact absurd me.2.1 (by decide)
theorem put_sz {room : Nat} {R : Rcd} {e : Ev} (he : R.err e = 0) : szV (if (R.fl room e).op = [] then e else R.last) e = (evBytes (if (R.fl room e).op = [] then e else R.last) e).length := by
  obtain ⟨h1, h2, h3, h4⟩ := err_zero he
  unfold szV
  by_cases h0 : (R.fl room e).op = []
  · rw [if_pos h0, if_pos ⟨by rw [stp_self], h2⟩]
  · rw [if_neg h0]
    have hf : R.fits room e = true := by
      by_cases hf : R.fits room e = true
      · exact hf
      · exfalso
        unfold Rcd.fl at h0
        rw [if_neg hf, flush_op] at h0
        exact h0 rfl
    unfold Rcd.fits at hf
    simp only [Bool.and_eq_true] at hf
    rw [if_pos ⟨hf.1, h2⟩]
theorem op_le {room : Nat} {R : Rcd} (h : R.Inv room) : R.op.length ≤ (lB R.op).length := by
  rw [← lB_prn]
  have key : ∀ n, n ≤ (prnC (fun i => R.op.getD i default) n).length := by
    intro n
    induction n with
    | zero => exact Nat.zero_le _
    | succ n ih =>
      rw [prnC, List.length_append]
      have := evb_pos (R.op.getD (n - 1) default) (R.op.getD n default)
      omega
  exact key _
/-- The end of Put: the event stands behind the open frame's. -/
theorem rput_tail {w w12 w9 w14 w15 : World} {x tb rb room cap : Nat} {pol : Int} {R R1 : Rcd} {L L1 : List (List UInt8)} {lo lo1 : Nat} {F G : Nat → Prop} {e : Ev} {v' : Value}
    (h : RecP w x tb rb room cap pol R L lo F) (hFx : F x) (he : e.Wf) (herr : R.err e = 0) (hR1 : R1 = R.fl room e) (rel : FlRel cap pol R R1 L lo L1 lo1) (P12 : RecP w12 x tb rb room cap pol R1 L1 lo1 G) (on12 : Only F w w12) (hGg : ∀ k, G k → grow F w w12 k)
    {vo : Value} {FR : Nat → Prop} (m : RecM w12 x tb rb room cap pol R1 L1 lo1 vo FR) (hf : ∀ k, recF x vo FR k → G k) {S : Nat} (hS : S = (lB (R1.op ++ [e])).length)
    (hk9 : Below w12.heap.size w12 w9) (hk14 : Below (w9.setCell ⟨x, 4, none⟩ (.int .i64 (S : Nat))).heap.size (w9.setCell ⟨x, 4, none⟩ (.int .i64 (S : Nat))) w14) (hg : w14.grownBy w15 vo.ownBlock)
    (own : w15.ownsRow 0 25 6 v' (R1.op.length + 1) (evCells R1.op ++ evCells [e])) (hat : v'.ownBlock = vo.ownBlock ∨ v'.ownBlock = some w14.heap.size) :
    RcB (w15.setCell ⟨x, 3, none⟩ v') x tb rb room v' (R1.op ++ [e]) S R1.last R1.fr.length R1.cl ∧
    (∃ L' lo', FlRel cap pol R (R.put room e) L lo L' lo' ∧ RecP (((((((w15.setCell ⟨x, 3, none⟩ v').setCell ⟨x, 5, none⟩ (.int .i64 e.k)).setCell ⟨x, 6, none⟩ (.int .u64 e.cy)).setCell ⟨x, 7, none⟩ (.int .u64 e.ct)).setCell ⟨x, 8, none⟩ (.int .u32 e.a)).setCell ⟨x, 9, none⟩ (.int .u32 e.b)).setCell ⟨x, 10, none⟩ (.int .u32 e.v)) x tb rb room cap pol (R.put room e) L' lo' (grow F w (((((((w15.setCell ⟨x, 3, none⟩ v').setCell ⟨x, 5, none⟩ (.int .i64 e.k)).setCell ⟨x, 6, none⟩ (.int .u64 e.cy)).setCell ⟨x, 7, none⟩ (.int .u64 e.ct)).setCell ⟨x, 8, none⟩ (.int .u32 e.a)).setCell ⟨x, 9, none⟩ (.int .u32 e.b)).setCell ⟨x, 10, none⟩ (.int .u32 e.v)))) ∧
    Only F w (((((((w15.setCell ⟨x, 3, none⟩ v').setCell ⟨x, 5, none⟩ (.int .i64 e.k)).setCell ⟨x, 6, none⟩ (.int .u64 e.cy)).setCell ⟨x, 7, none⟩ (.int .u64 e.ct)).setCell ⟨x, 8, none⟩ (.int .u32 e.a)).setCell ⟨x, 9, none⟩ (.int .u32 e.b)).setCell ⟨x, 10, none⟩ (.int .u32 e.v)) := by
  have own' : w15.ownsRow 0 25 6 v' (R1.op ++ [e]).length (evCells (R1.op ++ [e])) := by
    have e1 : evCells (R1.op ++ [e]) = evCells R1.op ++ evCells [e] := by simp [evCells]
    rw [e1, List.length_append]; exact own
  have b13 := (m.b.below hk9).setSz S
  have o9 : Only (fun k => k = x ∨ vo.ownBlock = some k) w12 (w9.setCell ⟨x, 4, none⟩ (.int .i64 (S : Nat))) := (Only.of_below hk9 _).setCell ⟨x, 4, none⟩ _ fun _ => .inl rfl
  have o14 := o9.trans (Only.of_below hk14 (fun k => k = x ∨ vo.ownBlock = some k)) fun _ _ q => q
  have o15 := o14.grown hg fun k hk _ => .inr hk
  have me15 := (hg.block x (blk_lt ((hk14.block x (blk_lt b13.me)).trans b13.me)) (fun q => m.b.vx q.symm)).trans ((hk14.block x (blk_lt b13.me)).trans b13.me)
  have b16 := RcB.mkOp me15 own'
  have b17 := b16.setLast e
  have hxx : ∀ i : Nat, (⟨x, i, none⟩ : Addr).block < w12.heap.size → x = x ∨ vo.ownBlock = some x := fun _ _ => .inl rfl
  have o17 := ((((((o15.setCell ⟨x, 3, none⟩ v' (hxx 3)).setCell ⟨x, 5, none⟩ (.int .i64 e.k) (hxx 5)).setCell ⟨x, 6, none⟩ (.int .u64 e.cy) (hxx 6)).setCell ⟨x, 7, none⟩ (.int .u64 e.ct) (hxx 7)).setCell ⟨x, 8, none⟩ (.int .u32 e.a) (hxx 8)).setCell ⟨x, 9, none⟩ (.int .u32 e.b) (hxx 9)).setCell ⟨x, 10, none⟩ (.int .u32 e.v) (hxx 10)
  have s14 : w12.heap.size ≤ w14.heap.size := o14.size
  have on17 := on12.trans o17 fun k hk q => by
    rcases q with q | q
    · exact q ▸ hFx
    · rcases hGg k (hf k (.inr (.inl q))) with q2 | q2
      · exact q2
      · omega
  refine ⟨b16, ?_, on17⟩
  have hinv := h.m.elim fun _ q => q.elim fun _ q => q.1.inv
  have hrm := m.rm
  have hput : R.put room e = { R1 with op := R1.op ++ [e], last := e } := by rw [hR1]; exact if_neg (fun q => q herr)
  generalize ((((((w15.setCell ⟨x, 3, none⟩ v').setCell ⟨x, 5, none⟩ (.int .i64 e.k)).setCell ⟨x, 6, none⟩ (.int .u64 e.cy)).setCell ⟨x, 7, none⟩ (.int .u64 e.ct)).setCell ⟨x, 8, none⟩ (.int .u32 e.a)).setCell ⟨x, 9, none⟩ (.int .u32 e.b)).setCell ⟨x, 10, none⟩ (.int .u32 e.v) = w17 at *
  refine ⟨L1, lo1, ?_, ⟨v', FR, ?_, ?_⟩, grow_lt h.foot on17.size, grow_tb h⟩
  · rw [hput]; exact rel
  · rw [hput]
    refine { b := ?_, tab := m.tab.only o17 ?_, ring := m.ring.only o17 ?_, xr := m.xr, tr := m.tr, vr := ?_, inv := ?_, rm := hrm, pl := m.pl, cnt := m.cnt }
    · rw [← hS]; exact b17
    · rintro (q | q)
      · exact P12.tb (q ▸ hf x (.inl rfl))
      · exact P12.tb (hf tb (.inr (.inl q)))
    · rintro k hk (q | q)
      · exact m.xr (q ▸ hk)
      · exact m.vr k q hk
    · intro g hg2 hk
      rcases hat with q | q
      · exact m.vr g (q.symm.trans hg2) hk
      · rw [hg2] at q
        have := m.ring.foot g hk
        have := Option.some.inj q
        omega
    · rw [← hput]; exact hinv.put he hrm.1
  · rintro k (q | q | q)
    · exact .inl (q ▸ hFx)
    · rcases hat with q2 | q2
      · rcases hGg k (hf k (.inr (.inl (q2.symm.trans q)))) with q3 | q3
        · exact .inl q3
        · exact .inr ⟨q3.1, Nat.lt_of_lt_of_le q3.2 o17.size⟩
      · have hlt := (b17.own.lt k q).2
        rw [q] at q2
        have := Option.some.inj q2
        have := on12.size
        exact .inr ⟨by omega, hlt⟩
    · rcases hGg k (hf k (.inr (.inr q))) with q3 | q3
      · exact .inl q3
      · exact .inr ⟨q3.1, Nat.lt_of_lt_of_le q3.2 o17.size⟩
set_option maxHeartbeats 4000000 in
theorem rput_any (hpa : PutsAs pol) (h : RecP w x tb rb room cap pol R L lo F) (hn : R.fr.length ≤ 100000) (e : Ev) (he : e.Wf) : Calls Try.prog 17 #[.pointer (some ⟨x, 0, none⟩), e.val] w (RPutPost w x tb rb room cap pol R L lo F e) := by
  obtain ⟨o, ho⟩ : ∃ o, o = w.heap.size := ⟨_, rfl⟩
  have hal := (Below.refl w.heap.size w).alloc (Nat.le_refl _) (.cells #[.int .i64 e.k, .int .u64 e.cy, .int .u64 e.ct, .int .u32 e.a, .int .u32 e.b, .int .u32 e.v] 25)
  have he1 := heap_alloc_new w (.cells #[.int .i64 e.k, .int .u64 e.cy, .int .u64 e.ct, .int .u32 e.a, .int .u32 e.b, .int .u32 e.v] 25)
  have h1 := h.below hal
  have hFo : ¬ F o := fun hk => by have := h.foot o hk; omega
  have hg1 : ∀ {W : World}, Below w.heap.size w W → ∀ {R2 : Rcd} {L2 : List (List UInt8)} {lo2 : Nat}, RecP W x tb rb room cap pol R2 L2 lo2 F → RecP W x tb rb room cap pol R2 L2 lo2 (grow F w W) := by
    intro W hB R2 L2 lo2 hr
    obtain ⟨vo, FR, m, hf⟩ := hr.m
    refine ⟨⟨vo, FR, m, fun k hk => .inl (hf k hk)⟩, grow_lt h.foot hB.size, ?_⟩
    rintro (hk | hk)
    · exact h.tb hk
    · have := h.tb_lt; omega
  have hrj : ∀ {W : World}, Below w.heap.size w W → R.err e ≠ 0 → RecP W x tb rb room cap pol R L lo F → ∃ L' lo', FlRel cap pol R (R.put room e) L lo L' lo' ∧ RecP W x tb rb room cap pol (R.put room e) L' lo' (grow F w W) ∧ Only F w W := by
    intro W hB h0 hr
    have hp : R.put room e = R := if_pos h0
    rw [hp]
    exact ⟨L, lo, .inl ⟨rfl, rfl, rfl⟩, hg1 hB hr, Only.of_below hB F⟩
  have HG := Lib.hid (And.intro h (And.intro (@hg1) (@hrj)))
  clear hg1 hrj
  rw [← ho] at he1
  unfold Ev.val
  go_enter Try.func17, Try.ntmps17
  go_upto_region 1 with fail
  rw [← ho]
  clear ho
  generalize w.alloc (.cells #[.int .i64 e.k, .int .u64 e.cy, .int .u64 e.ct, .int .u32 e.a, .int .u32 e.b, .int .u32 e.v] 25) = w1 at *
  clear h
  obtain ⟨vo, FR, m, hf⟩ := id h1.m
  have y12 := m.b.cells 12
  simp only [rcCells, List.getElem?_toArray, List.getElem?_cons_succ, List.getElem?_cons_zero] at y12
  obtain ⟨c0, c1, c2, c3, c4, c5⟩ := ev_cells (e := e) he1
  cases hcl : R.cl
  · rw [hcl] at y12
    have hck := check_any e w1
    by_cases hch : e.chk = 0
    · have hz : (e.chk != 0) = false := by simp [hch]
      rw [hch] at hck
      go_wp2_with (first | (go_at_call 56; (refine hck.mono ?_); rintro a2 w2 ⟨rfl, hk2⟩; have he2 := (hk2.block o (blk_lt he1)).trans he1; have h2 := h1.below hk2; have hB2 := hal.trans (hk2.mono hal.size); clear hck hk2 y12 c0 c1 c2 c3 c4 c5 he1 m hf h1 hal))
      obtain ⟨vo, FR, m, hf⟩ := id h2.m
      have y6 := m.b.cells 6
      have y7 := m.b.cells 7
      simp only [rcCells, List.getElem?_toArray, List.getElem?_cons_succ, List.getElem?_cons_zero] at y6 y7
      obtain ⟨c0, c1, c2, c3, c4, c5⟩ := ev_cells (e := e) he2
      by_cases hst1 : (e.ct : Int) < R.last.ct
      · have hE : R.err e = 5 := by unfold Rcd.err; rw [hcl, if_neg (by decide), if_neg (fun q => q hch), if_pos (by omega)]
        have HE := Lib.hid (And.intro hE (fun n => HG.out.2.2 (hB2.trans ((kept_drewN w2 n).mono hB2.size)) (by rw [hE]; decide) (h2.below (kept_drewN w2 n))))
        clear hE
        go_quiet (fail)
        go_wp2_with fail
        go_ret
        exact ⟨by rw [HE.out.1]; rfl, HE.out.2 _⟩
      · by_cases hst2 : (e.cy : Int) < R.last.cy
        · have hE : R.err e = 5 := by unfold Rcd.err; rw [hcl, if_neg (by decide), if_neg (fun q => q hch), if_pos (by omega)]
          have HE := Lib.hid (And.intro hE (fun n => HG.out.2.2 (hB2.trans ((kept_drewN w2 n).mono hB2.size)) (by rw [hE]; decide) (h2.below (kept_drewN w2 n))))
          clear hE
          go_quiet (fail)
          go_wp2_with fail
          go_ret
          exact ⟨by rw [HE.out.1]; rfl, HE.out.2 _⟩
        · have hE : R.err e = 0 := by unfold Rcd.err; rw [hcl, if_neg (by decide), if_neg (fun q => q hch), if_neg (by omega)]
          have HE := Lib.hid (And.intro hE (And.intro hcl (And.intro hch (And.intro hst1 hst2))))
          go_quiet (fail)
          clear hE y6 y7 c0 c1 c2 c3 c4 c5 hcl hch hst1 hst2 hz m hf
          have h3 := h2.below (kept_drewN w2 nq)
          have hB3 := hB2.trans ((kept_drewN w2 nq).mono hB2.size)
          have he3 := ((kept_drewN w2 nq).block o (blk_lt he2)).trans he2
          generalize w2.drewN nq = w3 at *
          clear h2 hB2 he2 w2
          go_upto_region 9 with fail
          obtain ⟨vo, FR, m, hf⟩ := id h3.m
          have hsz := fun W => csize_any R.last e m.inv.last he W
          have yl := fun i => m.b.cells i
          have hxs : x < w3.heap.size := blk_lt m.b.me
          have hos : o < w3.heap.size := blk_lt he3
          obtain ⟨Z, hZ⟩ : ∃ Z, Z = szV R.last e := ⟨_, rfl⟩
          rw [← hZ] at hsz
          have HZ := Lib.hid hZ
          clear hZ m hf
          obtain ⟨⟨k0, y0, t0, a0, b0, v0⟩, hl⟩ : ∃ l : Ev, l = R.last := ⟨_, rfl⟩
          obtain ⟨⟨k1, y1, t1, a1, b1, v1⟩, he'⟩ : ∃ l : Ev, l = e := ⟨_, rfl⟩
          have H : w3.cell? ⟨x, 5, none⟩ = some (.int .i64 k0) ∧ w3.cell? ⟨x, 6, none⟩ = some (.int .u64 y0) ∧ w3.cell? ⟨x, 7, none⟩ = some (.int .u64 t0) ∧ w3.cell? ⟨x, 8, none⟩ = some (.int .u32 a0) ∧ w3.cell? ⟨x, 9, none⟩ = some (.int .u32 b0) ∧ w3.cell? ⟨x, 10, none⟩ = some (.int .u32 v0) ∧ w3.cell? ⟨o, 0, none⟩ = some (.int .i64 k1) ∧ w3.cell? ⟨o, 1, none⟩ = some (.int .u64 y1) ∧ w3.cell? ⟨o, 2, none⟩ = some (.int .u64 t1) ∧ w3.cell? ⟨o, 3, none⟩ = some (.int .u32 a1) ∧ w3.cell? ⟨o, 4, none⟩ = some (.int .u32 b1) ∧ w3.cell? ⟨o, 5, none⟩ = some (.int .u32 v1) := by
            obtain ⟨c0, c1, c2, c3, c4, c5⟩ := ev_cells (e := e) he3
            rw [← he'] at c0 c1 c2 c3 c4 c5
            have q5 := yl 5
            have q6 := yl 6
            have q7 := yl 7
            have q8 := yl 8
            have q9 := yl 9
            have q10 := yl 10
            rw [← hl] at q5 q6 q7 q8 q9 q10
            exact ⟨q5, q6, q7, q8, q9, q10, c0, c1, c2, c3, c4, c5⟩
          have hsz := hsz w3.drew
          rw [← hl, ← he'] at hsz
          unfold Ev.val at hsz
          dsimp only at hsz
          have HL := Lib.hid (And.intro hl he')
          clear hl he' yl
          go_region_held3 (fun w' => w'.cell? ⟨x, 5, none⟩ = some (.int .i64 k0) ∧ w'.cell? ⟨x, 6, none⟩ = some (.int .u64 y0) ∧ w'.cell? ⟨x, 7, none⟩ = some (.int .u64 t0) ∧ w'.cell? ⟨x, 8, none⟩ = some (.int .u32 a0) ∧ w'.cell? ⟨x, 9, none⟩ = some (.int .u32 b0) ∧ w'.cell? ⟨x, 10, none⟩ = some (.int .u32 v0) ∧ w'.cell? ⟨o, 0, none⟩ = some (.int .i64 k1) ∧ w'.cell? ⟨o, 1, none⟩ = some (.int .u64 y1) ∧ w'.cell? ⟨o, 2, none⟩ = some (.int .u64 t1) ∧ w'.cell? ⟨o, 3, none⟩ = some (.int .u32 a1) ∧ w'.cell? ⟨o, 4, none⟩ = some (.int .u32 b1) ∧ w'.cell? ⟨o, 5, none⟩ = some (.int .u32 v1)) (first | exact H | exact H2) (first | (go_at_call 57; (with_reducible refine hsz.mono ?_); rintro a9 w9 ⟨rfl, hk9⟩; have H2 : w9.cell? ⟨x, 5, none⟩ = some (.int .i64 k0) ∧ w9.cell? ⟨x, 6, none⟩ = some (.int .u64 y0) ∧ w9.cell? ⟨x, 7, none⟩ = some (.int .u64 t0) ∧ w9.cell? ⟨x, 8, none⟩ = some (.int .u32 a0) ∧ w9.cell? ⟨x, 9, none⟩ = some (.int .u32 b0) ∧ w9.cell? ⟨x, 10, none⟩ = some (.int .u32 v0) ∧ w9.cell? ⟨o, 0, none⟩ = some (.int .i64 k1) ∧ w9.cell? ⟨o, 1, none⟩ = some (.int .u64 y1) ∧ w9.cell? ⟨o, 2, none⟩ = some (.int .u64 t1) ∧ w9.cell? ⟨o, 3, none⟩ = some (.int .u32 a1) ∧ w9.cell? ⟨o, 4, none⟩ = some (.int .u32 b1) ∧ w9.cell? ⟨o, 5, none⟩ = some (.int .u32 v1) := twelve (off := 5) hk9 hxs hos H))
          clear hsz H
          have h9 := h3.below ((Below.refl w3.heap.size w3).drew.trans hk9)
          have hB9 := hB3.trans (((Below.refl w3.heap.size w3).drew.trans hk9).mono hB3.size)
          have he9 := (((Below.refl w3.heap.size w3).drew.trans hk9).block o hos).trans he3
          have hos9 : o < w9.heap.size := blk_lt he9
          clear hk9 h3 hB3 he3 H2 hos hxs
          obtain ⟨vo, FR, m, hf⟩ := id h9.m
          have y2 := m.b.cells 2
          have y4 := m.b.cells 4
          simp only [rcCells, List.getElem?_toArray, List.getElem?_cons_succ, List.getElem?_cons_zero] at y2 y4
          obtain ⟨T, hT⟩ : ∃ T, T = (lB R.op).length := ⟨_, rfl⟩
          rw [← hT] at y4
          have hrm := m.rm
          have hfi := fits_iff (room := room) (R := R) (e := e) HE.out.2.2.1
          have hZb : Z ≤ 20 := by
            rw [HZ.out]
            unfold szV
            split
            · rename_i q
              exact evb_le he q.1 q.2
            · omega
          have hTb : T ≤ 120 := by
            rw [hT]
            by_cases q : R.op = []
            · rw [q]; simp [lB, chB]
            · have := (m.inv.op q).2.2; omega
          rw [← HZ.out, ← hT] at hfi
          have HT := Lib.hid hT
          clear m hf hT
          have hwr : IntKind.i64.wrap ((T : Int) + Z) = (T : Int) + Z := IntWalk.i64_in _ (by omega)
          have hcase : (Z = 0) ∨ (Z ≠ 0 ∧ room < T + Z) ∨ (Z ≠ 0 ∧ T + Z ≤ room) := by omega
          have hfl := fun n => flush_any hpa (h9.below (kept_drewN w9 n)) hn
          rcases hcase with hc | hc | hc
          case' inl =>
            have hF : R.fl room e = R.flush := if_neg (fun q => (hfi.1 q).1 hc)
            have hz : (Z : Int) = 0 := by omega
            have hz' : decide ((Z : Int) = 0) = true := decide_eq_true hz
            have hz3 : ((Z : Int) == 0) = true := by rw [hz]; rfl
            go_wp2_with fail
            go_quiet (fail)
            go_upto_region 12 with ((go_at_call 15; (with_reducible refine (hfl _).mono ?_); rintro a10 w10 ⟨rfl, L1, lo1, rel, P10, on10'⟩))
            have hk := kept_drewN w9 nq
            have on10 : Only F w w10 := (Only.of_below (hB9.trans (hk.mono hB9.size)) F).trans on10' fun _ _ x => x
            have he10 := on10'.keeps ((hk.block o hos9).trans he9) hFo
            obtain ⟨G, P10, hGo, hGg⟩ : ∃ G, RecP w10 x tb rb room cap pol (R.fl room e) L1 lo1 G ∧ ¬ G o ∧ ∀ k, G k → grow F w w10 k := by
              rw [hF]
              refine ⟨_, P10, ?_, ?_⟩
              · rintro (q | q)
                · exact hFo q
                · exact absurd q.1 (Nat.not_le.2 hos9)
              · rintro k (q | q)
                · exact .inl q
                · exact .inr ⟨Nat.le_trans hB9.size q.1, q.2⟩
            rw [← hF] at rel
            have hfo : (R.fl room e).op = [] := by rw [hF]; exact flush_op R
            clear hk on10' he9 hF hz hz' hz3
          case' inr.inl =>
            have hF : R.fl room e = R.flush := if_neg (fun q => by have := (hfi.1 q).2; omega)
            have hz : ¬ (Z : Int) = 0 := by omega
            have hz' : decide ((Z : Int) = 0) = false := decide_eq_false hz
            have hz3 : ((Z : Int) == 0) = false := beq_eq_false_iff_ne.2 hz
            have hz2 : (room : Int) < T + Z := by omega
            go_wp2_with fail
            go_quiet (fail)
            go_upto_region 12 with ((go_at_call 15; (with_reducible refine (hfl _).mono ?_); rintro a10 w10 ⟨rfl, L1, lo1, rel, P10, on10'⟩))
            have hk := kept_drewN w9 nq
            have on10 : Only F w w10 := (Only.of_below (hB9.trans (hk.mono hB9.size)) F).trans on10' fun _ _ x => x
            have he10 := on10'.keeps ((hk.block o hos9).trans he9) hFo
            obtain ⟨G, P10, hGo, hGg⟩ : ∃ G, RecP w10 x tb rb room cap pol (R.fl room e) L1 lo1 G ∧ ¬ G o ∧ ∀ k, G k → grow F w w10 k := by
              rw [hF]
              refine ⟨_, P10, ?_, ?_⟩
              · rintro (q | q)
                · exact hFo q
                · exact absurd q.1 (Nat.not_le.2 hos9)
              · rintro k (q | q)
                · exact .inl q
                · exact .inr ⟨Nat.le_trans hB9.size q.1, q.2⟩
            rw [← hF] at rel
            have hfo : (R.fl room e).op = [] := by rw [hF]; exact flush_op R
            clear hk on10' he9 hF hz hz' hz3 hz2
          case' inr.inr =>
            have hF : R.fl room e = R := if_pos (hfi.2 hc)
            have hz : ¬ (Z : Int) = 0 := by omega
            have hz' : decide ((Z : Int) = 0) = false := decide_eq_false hz
            have hz3 : ((Z : Int) == 0) = false := beq_eq_false_iff_ne.2 hz
            have hz2 : ¬ (room : Int) < T + Z := by omega
            go_wp2_with fail
            go_quiet (fail)
            go_upto_region 12 with fail
            have hk := kept_drewN w9 nq
            have on10 : Only F w (w9.drewN nq) := Only.of_below (hB9.trans (hk.mono hB9.size)) F
            have he10 := (hk.block o hos9).trans he9
            obtain ⟨L1, lo1, rel, P10⟩ : ∃ L1 lo1, FlRel cap pol R (R.fl room e) L lo L1 lo1 ∧ RecP (w9.drewN nq) x tb rb room cap pol (R.fl room e) L1 lo1 F := by
              rw [hF]
              exact ⟨L, lo, .inl ⟨rfl, rfl, rfl⟩, h9.below hk⟩
            obtain ⟨G, P10, hGo, hGg⟩ : ∃ G, RecP (w9.drewN nq) x tb rb room cap pol (R.fl room e) L1 lo1 G ∧ ¬ G o ∧ ∀ k, G k → grow F w (w9.drewN nq) k := ⟨F, P10, hFo, fun k q => .inl q⟩
            have hfo : True := trivial
            generalize w9.drewN nq = w10 at *
            clear hk he9 hF hz hz' hz3 hz2
          all_goals
            clear hfl h9 hB9 y2 y4 hfi hc HZ hos9 hrm HT hZb hTb HL hwr
            have hlast := fl_last room R e
            obtain ⟨R1, hR1⟩ : ∃ R1, R1 = R.fl room e := ⟨_, rfl⟩
            rw [← hR1] at rel P10 hlast
            try rw [← hR1] at hfo
            have HR1 := Lib.hid hR1
            clear hR1
            obtain ⟨vo, FR, m, hf⟩ := id P10.m
            have hinv := m.inv
            obtain ⟨⟨kb, yb, tb', ab, bb, vb⟩, hl⟩ : ∃ l : Ev, l = R1.last := ⟨_, rfl⟩
            have q5 := m.b.cells 5
            have q6 := m.b.cells 6
            have q7 := m.b.cells 7
            have q8 := m.b.cells 8
            have q9 := m.b.cells 9
            have q10 := m.b.cells 10
            rw [← hl] at q5 q6 q7 q8 q9 q10
            simp only [rcCells, List.getElem?_toArray, List.getElem?_cons_succ, List.getElem?_cons_zero] at q5 q6 q7 q8 q9 q10
            have hal := (Below.refl w10.heap.size w10).alloc (Nat.le_refl _) (.cells #[.int .i64 kb, .int .u64 yb, .int .u64 tb', .int .u32 ab, .int .u32 bb, .int .u32 vb] 25)
            have hb := heap_alloc_new w10 (.cells #[.int .i64 kb, .int .u64 yb, .int .u64 tb', .int .u32 ab, .int .u32 bb, .int .u32 vb] 25)
            obtain ⟨o2, ho2⟩ : ∃ o2, o2 = w10.heap.size := ⟨_, rfl⟩
            rw [← ho2] at hb
            have hF2 : ¬ F o2 := fun q => by have := HG.out.1.foot o2 q; have := on10.size; omega
            have hG2 : ¬ G o2 := fun q => by have := P10.foot o2 q; omega
            have ho0 : w.heap.size ≤ o2 := by have := on10.size; omega
            have hoo : o ≠ o2 := by have := blk_lt he10; omega
            have P11 := P10.below hal
            have he11 := (hal.block o (blk_lt he10)).trans he10
            have on11 : Only F w _ := on10.trans (Only.of_below hal F) fun _ _ x => x
            have hGg11 : ∀ k, G k → grow F w (w10.alloc (.cells #[.int .i64 kb, .int .u64 yb, .int .u64 tb', .int .u32 ab, .int .u32 bb, .int .u32 vb] 25)) k := fun k q => by
              rcases hGg k q with q | q
              · exact .inl q
              · exact .inr ⟨q.1, Nat.lt_of_lt_of_le q.2 hal.size⟩
            have HL := Lib.hid hl
            clear hl m hf P10 hal he10 on10 hGg
            go_upto_region 13 with fail
            rw [← ho2]
            clear ho2 q5 q6 q7 q8 q9 q10
            generalize w10.alloc (.cells #[.int .i64 kb, .int .u64 yb, .int .u64 tb', .int .u32 ab, .int .u32 bb, .int .u32 vb] 25) = w11 at *
            obtain ⟨vo, FR, m, hf⟩ := id P11.m
            obtain ⟨ao, c, hvo⟩ := owns_form m.b.own
            have q3 := m.b.cells 3
            rw [hvo] at q3
            simp only [rcCells, List.getElem?_toArray, List.getElem?_cons_succ, List.getElem?_cons_zero] at q3
            obtain ⟨K1, hK1⟩ : ∃ K1, K1 = R1.op.length := ⟨_, rfl⟩
            rw [← hK1] at q3
            have HM := Lib.hid (And.intro m (And.intro hf (And.intro hvo (And.intro hlast (And.intro hinv hK1)))))
            clear m hf hvo hlast hinv hK1
            by_cases hop : K1 = 0
            case' pos =>
              have hop1 : (K1 : Int) = 0 := by omega
              have hop2 : decide ((K1 : Int) = 0) = true := decide_eq_true hop1
              have hop3 : ((K1 : Int) == 0) = true := by rw [hop1]; rfl
              obtain ⟨c0, c1, c2, c3, c4, c5⟩ := ev_cells (e := e) he11
              obtain ⟨x0, x1, x2, x3, x4, x5⟩ := ev_cells (e := ⟨kb, yb, tb', ab, bb, vb⟩) hb
              have f0 := frozen_blk hb 0
              have f1 := frozen_blk hb 1
              have f2 := frozen_blk hb 2
              have f3 := frozen_blk hb 3
              have f4 := frozen_blk hb 4
              have f5 := frozen_blk hb 5
              dsimp only at x0 x1 x2 x3 x4 x5
              go_upto_region 15 with fail
              obtain ⟨hb12, on12⟩ := six_set (b := o2) (e := ⟨kb, yb, tb', ab, bb, vb⟩) (f := e) hb on11 (fun q => absurd q (Nat.not_lt.2 ho0))
              obtain ⟨_, o12⟩ := six_set (b := o2) (e := ⟨kb, yb, tb', ab, bb, vb⟩) (f := e) (S := fun k => k = o2) hb (Only.refl _ w11) (fun q => rfl)
              have P12 := P11.only o12 (fun k q q2 => hG2 (q2 ▸ q)) (fun (q : tb = o2) => by have := HG.out.1.tb_lt; omega)
              have he12 := o12.keeps he11 hoo
              have hGg12 : ∀ k, G k → grow F w _ k := fun k q => by
                rcases hGg11 k q with q | q
                · exact .inl q
                · exact .inr ⟨q.1, Nat.lt_of_lt_of_le q.2 o12.size⟩
              clear hb on11 P11 he11 hGg11 o12 c0 c1 c2 c3 c4 c5 x0 x1 x2 x3 x4 x5 f0 f1 f2 f3 f4 f5 HL
              generalize (((((w11.setCell ⟨o2, 0, none⟩ (.int .i64 e.k)).setCell ⟨o2, 1, none⟩ (.int .u64 e.cy)).setCell ⟨o2, 2, none⟩ (.int .u64 e.ct)).setCell ⟨o2, 3, none⟩ (.int .u32 e.a)).setCell ⟨o2, 4, none⟩ (.int .u32 e.b)).setCell ⟨o2, 5, none⟩ (.int .u32 e.v) = w12 at *
              obtain ⟨bE, hbE⟩ : ∃ bE, bE = e := ⟨_, rfl⟩
              rw [← hbE] at hb12
              have HbE : bE.Wf ∧ bE = if R1.op = [] then e else R.last := by
                rw [hbE, if_pos (List.eq_nil_of_length_eq_zero (by rw [← HM.out.2.2.2.2.2]; exact hop))]
                exact ⟨he, rfl⟩
              clear hbE HM
            case' neg =>
              have hop1 : ¬ (K1 : Int) = 0 := by omega
              have hop2 : decide ((K1 : Int) = 0) = false := decide_eq_false hop1
              have hop3 : ((K1 : Int) == 0) = false := beq_eq_false_iff_ne.2 hop1
              first | (exfalso; exact hop (by rw [HM.out.2.2.2.2.2, hfo]; rfl)) | skip
              all_goals
                go_upto_region 15 with fail
                have hb12 : w11.heap[o2]? = some (.cells (Ev.mk kb yb tb' ab bb vb).cells.toArray 25 (0, 0)) := hb
                obtain ⟨bE, hbE⟩ : ∃ bE, bE = Ev.mk kb yb tb' ab bb vb := ⟨_, rfl⟩
                rw [← hbE] at hb12
                have HbE : bE.Wf ∧ bE = if R1.op = [] then e else R.last := by
                  rw [if_neg (fun q => hop (by rw [HM.out.2.2.2.2.2, q]; rfl)), hbE, HL.out, HM.out.2.2.2.1]
                  refine ⟨?_, rfl⟩
                  have := HM.out.2.2.2.2.1.last
                  rw [HM.out.2.2.2.1] at this
                  exact this
                have on12 := on11
                have P12 := P11
                have he12 := he11
                have hGg12 := hGg11
                clear hbE hb on11 P11 he11 hGg11 HM HL
                generalize w11 = w12 at *
            all_goals
              clear q3 hop1 hop2 hop3 hop hfo
              obtain ⟨vo, FR, m, hf⟩ := id P12.m
              have hsz2 := fun W => csize_any bE e HbE.1 he W
              have y4 := m.b.cells 4
              have z4 := m.b.frozen 4
              simp only [rcCells, List.getElem?_toArray, List.getElem?_cons_succ, List.getElem?_cons_zero] at y4
              have hxs : x < w12.heap.size := blk_lt m.b.me
              have hos : o < w12.heap.size := blk_lt he12
              have ho2s : o2 < w12.heap.size := blk_lt hb12
              have hxo : x ≠ o := fun q => hFo (q ▸ HG.out.1.m.elim fun _ h => h.elim fun _ h => h.2 x (.inl rfl))
              have hxo2 : x ≠ o2 := fun q => hF2 (q ▸ HG.out.1.m.elim fun _ h => h.elim fun _ h => h.2 x (.inl rfl))
              have hT1b : (lB R1.op).length ≤ 120 := by
                have hrm := m.rm
                by_cases q : R1.op = []
                · rw [q]; simp [lB, chB]
                · have := (m.inv.op q).2.2; omega
              have hZ2b : szV bE e ≤ 20 := by
                unfold szV
                split
                · rename_i q
                  exact evb_le he q.1 q.2
                · omega
              obtain ⟨T1, hT1⟩ : ∃ T1, T1 = (lB R1.op).length := ⟨_, rfl⟩
              rw [← hT1] at y4 hT1b
              obtain ⟨Z2, hZ2⟩ : ∃ Z2, Z2 = szV bE e := ⟨_, rfl⟩
              rw [← hZ2] at hZ2b
              rw [← hZ2] at hsz2
              have HZ2 := Lib.hid (And.intro hZ2 hT1)
              clear hZ2 hT1 m hf
              obtain ⟨⟨k0, y0, t0, a0, b0, v0⟩, hl⟩ : ∃ l : Ev, l = bE := ⟨_, rfl⟩
              obtain ⟨⟨k1, y1, t1, a1, b1, v1⟩, he'⟩ : ∃ l : Ev, l = e := ⟨_, rfl⟩
              have H : w12.cell? ⟨o2, 0, none⟩ = some (.int .i64 k0) ∧ w12.cell? ⟨o2, 1, none⟩ = some (.int .u64 y0) ∧ w12.cell? ⟨o2, 2, none⟩ = some (.int .u64 t0) ∧ w12.cell? ⟨o2, 3, none⟩ = some (.int .u32 a0) ∧ w12.cell? ⟨o2, 4, none⟩ = some (.int .u32 b0) ∧ w12.cell? ⟨o2, 5, none⟩ = some (.int .u32 v0) ∧ w12.cell? ⟨o, 0, none⟩ = some (.int .i64 k1) ∧ w12.cell? ⟨o, 1, none⟩ = some (.int .u64 y1) ∧ w12.cell? ⟨o, 2, none⟩ = some (.int .u64 t1) ∧ w12.cell? ⟨o, 3, none⟩ = some (.int .u32 a1) ∧ w12.cell? ⟨o, 4, none⟩ = some (.int .u32 b1) ∧ w12.cell? ⟨o, 5, none⟩ = some (.int .u32 v1) := by
                obtain ⟨c0, c1, c2, c3, c4, c5⟩ := ev_cells (e := e) he12
                rw [← he'] at c0 c1 c2 c3 c4 c5
                obtain ⟨x0, x1, x2, x3, x4, x5⟩ := ev_cells (e := bE) hb12
                rw [← hl] at x0 x1 x2 x3 x4 x5
                exact ⟨x0, x1, x2, x3, x4, x5, c0, c1, c2, c3, c4, c5⟩
              have hsz2 := hsz2 w12.drew
              rw [← hl, ← he'] at hsz2
              unfold Ev.val at hsz2
              dsimp only at hsz2
              have HL := Lib.hid (And.intro hl he')
              clear hl he'
              have hwr2 : IntKind.i64.wrap ((T1 : Int) + Z2) = (T1 : Int) + Z2 := IntWalk.i64_in _ (by omega)
              have set12 : ∀ (W : World) (v : Value), W.cell? ⟨o2, 0, none⟩ = some (.int .i64 k0) ∧ W.cell? ⟨o2, 1, none⟩ = some (.int .u64 y0) ∧ W.cell? ⟨o2, 2, none⟩ = some (.int .u64 t0) ∧ W.cell? ⟨o2, 3, none⟩ = some (.int .u32 a0) ∧ W.cell? ⟨o2, 4, none⟩ = some (.int .u32 b0) ∧ W.cell? ⟨o2, 5, none⟩ = some (.int .u32 v0) ∧ W.cell? ⟨o, 0, none⟩ = some (.int .i64 k1) ∧ W.cell? ⟨o, 1, none⟩ = some (.int .u64 y1) ∧ W.cell? ⟨o, 2, none⟩ = some (.int .u64 t1) ∧ W.cell? ⟨o, 3, none⟩ = some (.int .u32 a1) ∧ W.cell? ⟨o, 4, none⟩ = some (.int .u32 b1) ∧ W.cell? ⟨o, 5, none⟩ = some (.int .u32 v1) → (W.setCell ⟨x, 4, none⟩ v).cell? ⟨o2, 0, none⟩ = some (.int .i64 k0) ∧ (W.setCell ⟨x, 4, none⟩ v).cell? ⟨o2, 1, none⟩ = some (.int .u64 y0) ∧ (W.setCell ⟨x, 4, none⟩ v).cell? ⟨o2, 2, none⟩ = some (.int .u64 t0) ∧ (W.setCell ⟨x, 4, none⟩ v).cell? ⟨o2, 3, none⟩ = some (.int .u32 a0) ∧ (W.setCell ⟨x, 4, none⟩ v).cell? ⟨o2, 4, none⟩ = some (.int .u32 b0) ∧ (W.setCell ⟨x, 4, none⟩ v).cell? ⟨o2, 5, none⟩ = some (.int .u32 v0) ∧ (W.setCell ⟨x, 4, none⟩ v).cell? ⟨o, 0, none⟩ = some (.int .i64 k1) ∧ (W.setCell ⟨x, 4, none⟩ v).cell? ⟨o, 1, none⟩ = some (.int .u64 y1) ∧ (W.setCell ⟨x, 4, none⟩ v).cell? ⟨o, 2, none⟩ = some (.int .u64 t1) ∧ (W.setCell ⟨x, 4, none⟩ v).cell? ⟨o, 3, none⟩ = some (.int .u32 a1) ∧ (W.setCell ⟨x, 4, none⟩ v).cell? ⟨o, 4, none⟩ = some (.int .u32 b1) ∧ (W.setCell ⟨x, 4, none⟩ v).cell? ⟨o, 5, none⟩ = some (.int .u32 v1) := by
                intro W v hh
                have key : ∀ (k i : Nat) (u : Value), k ≠ x → W.cell? ⟨k, i, none⟩ = some u → (W.setCell ⟨x, 4, none⟩ v).cell? ⟨k, i, none⟩ = some u := fun k i u hk hu => by
                  simp only [World.cell?] at hu ⊢
                  rw [Below.heap_setCell _ _ _ _ hk]
                  exact hu
                obtain ⟨x0, x1, x2, x3, x4, x5, c0, c1, c2, c3, c4, c5⟩ := hh
                exact ⟨key _ _ _ hxo2.symm x0, key _ _ _ hxo2.symm x1, key _ _ _ hxo2.symm x2, key _ _ _ hxo2.symm x3, key _ _ _ hxo2.symm x4, key _ _ _ hxo2.symm x5, key _ _ _ hxo.symm c0, key _ _ _ hxo.symm c1, key _ _ _ hxo.symm c2, key _ _ _ hxo.symm c3, key _ _ _ hxo.symm c4, key _ _ _ hxo.symm c5⟩
              obtain ⟨d0, d1, d2, d3, d4, d5, d6, d7, d8, d9, d10, d11⟩ := id H
              go_cut [] from 72 to 81 (fun wx => ∃ w9, Below w12.heap.size w12 w9 ∧ wx = w9.setCell ⟨x, 4, none⟩ (.int .i64 ((T1 : Int) + Z2)))
              case first =>
                go_region_law (first | (go_simp; go_at_call 57; (with_reducible refine hsz2.mono ?_); rintro a9 w9 ⟨rfl, hk9⟩; have y4' : w9.cell? ⟨x, 4, none⟩ = some (.int .i64 T1) := (hk9.cell (p := ⟨x, 4, none⟩) hxs).trans y4; have z4' : w9.frozen? ⟨x, 4, none⟩ = false := (hk9.frozen (p := ⟨x, 4, none⟩) hxs).trans z4))
                all_goals (go_wp2_with fail; go_meet; exact ⟨w9, (Below.refl w12.heap.size w12).drew.trans hk9, rfl⟩)
              case rest =>
                obtain ⟨w9, hk9, rfl⟩ := hcut
                clear hsz2 H y4 z4 set12 hb12
                obtain ⟨vo, FR, m, hf⟩ := id P12.m
                have he9 := (hk9.block o hos).trans he12
                have hS : T1 + Z2 = (lB (R1.op ++ [e])).length := by
                  have q1 := put_sz (room := room) HE.out.1
                  have q2 := (put_size (HG.out.1.m.elim fun _ q => q.elim fun _ q => q.1.inv) he HE.out.1 m.rm.1).2.2
                  rw [← HR1.out] at q1 q2
                  rw [HZ2.out.1, HZ2.out.2, HbE.2, q1, q2]
                have hK : R1.op.length ≤ 120 := by have := op_le m.inv; have := HZ2.out.2; omega
                rw [show ((T1 : Int) + Z2) = ((T1 + Z2 : Nat) : Int) by omega]
                obtain ⟨S, hSS⟩ : ∃ S, S = T1 + Z2 := ⟨_, rfl⟩
                rw [← hSS] at hS ⊢
                have hFx : F x := HG.out.1.m.elim fun _ h => h.elim fun _ h => h.2 x (.inl rfl)
                have htail := fun w14 w15 v' => rput_tail (w9 := w9) (w14 := w14) (w15 := w15) (v' := v') HG.out.1 hFx he HE.out.1 HR1.out rel P12 on12 hGg12 m hf hS hk9
                have b13 := (m.b.below hk9).setSz S
                have he13 : (w9.setCell ⟨x, 4, none⟩ (.int .i64 (S : Nat))).heap[o]? = some (.cells e.cells.toArray 25 (0, 0)) := (Below.heap_setCell _ _ _ _ hxo.symm).trans he9
                obtain ⟨ao, c, hvo⟩ := owns_form b13.own
                have hvx := b13.vx
                have y3 := b13.cells 3
                have hw13 : (w9.setCell ⟨x, 4, none⟩ (.int .i64 (S : Nat))).ownsRow 0 25 6 vo R1.op.length (evCells R1.op) := b13.own
                have hme := b13.me
                have hvo_o : vo.ownBlock ≠ some o := fun q => hGo (hf o (.inr (.inl q)))
                rw [hvo] at y3 hw13 hvx htail hme hvo_o
                simp only [rcCells, List.getElem?_toArray, List.getElem?_cons_succ, List.getElem?_cons_zero] at y3
                have HT := Lib.hid (@htail)
                have HH := Lib.hid hme
                clear htail P12 on12 hGg12 rel m hf hS he9 he12 b13 hme hSS hwr2 hT1b hZ2b hxs hos ho2s hxo2 d0 d1 d2 d3 d4 d5 d6 d7 d8 d9 d10 d11 hvo
                generalize (w9.setCell ⟨x, 4, none⟩ (.int .i64 (S : Nat))) = w13 at *
                obtain ⟨i0, hi, hz0, hz1, hz2⟩ := ev_info
                have ul : Try.prog.underlying 40 = some (.slice 25) := by kernel_rfl
                obtain ⟨c0, c1, c2, c3, c4, c5⟩ := ev_cells (e := e) he13
                have hx13 : x < w13.heap.size := blk_lt HH.out
                have ho13 : o < w13.heap.size := blk_lt he13
                have hk14 := ((Below.refl w13.heap.size w13).drew).alloc (Nat.le_refl _) (.cells #[.int .i64 e.k, .int .u64 e.cy, .int .u64 e.ct, .int .u32 e.a, .int .u32 e.b, .int .u32 e.v] 25)
                have hsr := src_ev w13.drew e
                have hown14 := own_keep hw13 (fun g hg => hk14.block g (hw13.lt g hg).2)
                have hln : (evCells [e]).length = 1 * 6 := by rw [evCells_length]; rfl
                go_upto_region 16 with fail
                go_cut [] from 82 to 91 (fun wx => ∃ w15 ao' c', (w13.drew.alloc (.cells #[.int .i64 e.k, .int .u64 e.cy, .int .u64 e.ct, .int .u32 e.a, .int .u32 e.b, .int .u32 e.v] 25)).grownBy w15 (Value.slice ao R1.op.length c).ownBlock ∧ w15.ownsRow 0 25 6 (.slice ao' (R1.op.length + 1) c') (R1.op.length + 1) (evCells R1.op ++ evCells [e]) ∧ ((Value.slice ao' (R1.op.length + 1) c').ownBlock = (Value.slice ao R1.op.length c).ownBlock ∨ (Value.slice ao' (R1.op.length + 1) c').ownBlock = some (w13.drew.alloc (.cells #[.int .i64 e.k, .int .u64 e.cy, .int .u64 e.ct, .int .u32 e.a, .int .u32 e.b, .int .u32 e.v] 25)).heap.size) ∧ wx = w15.setCell ⟨x, 3, none⟩ (.slice ao' (R1.op.length + 1) c'))
                case first =>
                  go_region_law (first | (refine step_append rfl (.tmp 86) (.tmp 88) 40 rfl 0 (Nat.zero_le _) 25 i0 _ 6 40 ul hi hz0 hz1 hz2 rfl (by decide) (.slice ao R1.op.length c) R1.op.length (evCells R1.op) rfl hown14 _ 1 (evCells [e]) rfl hln hsr (evCells_one _) (by unfold maxLen; omega) (by omega) ?_); intro ao' c' w15 hown' hg' hat'; have hx15 := (hg'.block x (by simp; omega) (fun q => hvx q.symm)).trans (blk_alloc (w := w13.drew) HH.out _); have y3' := cell_blk hx15 3; have z3' := frozen_blk hx15 3; simp only [rcCells, List.getElem?_toArray, List.getElem?_cons_succ, List.getElem?_cons_zero] at y3')
                  all_goals (go_wp2_with fail; go_meet; exact ⟨w15, ao', c', hg', hown', hat', rfl⟩)
                case rest =>
                  obtain ⟨w15, ao', c', hg', hown', hat', rfl⟩ := hcut
                  obtain ⟨b16, hfin, on17⟩ := HT.out _ w15 (.slice ao' (R1.op.length + 1) c') hk14 hg' hown' hat'
                  have he16 : (w15.setCell ⟨x, 3, none⟩ (.slice ao' (R1.op.length + 1) c')).heap[o]? = some (.cells e.cells.toArray 25 (0, 0)) := (Below.heap_setCell _ _ _ _ hxo.symm).trans ((hg'.block o (by simp; omega) (fun q => hvo_o q.symm)).trans (blk_alloc (w := w13.drew) he13 _))
                  have HF := Lib.hid (And.intro hfin on17)
                  clear hfin on17 hown14 hsr hk14 hg' hown' hat' c0 c1 c2 c3 c4 c5 y3 hw13 hvx
                  obtain ⟨c0, c1, c2, c3, c4, c5⟩ := ev_cells (e := e) he16
                  have y5 := b16.cells 5
                  have y6 := b16.cells 6
                  have y7 := b16.cells 7
                  have y8 := b16.cells 8
                  have y9 := b16.cells 9
                  have y10 := b16.cells 10
                  have z5 := b16.frozen 5
                  have z6 := b16.frozen 6
                  have z7 := b16.frozen 7
                  have z8 := b16.frozen 8
                  have z9 := b16.frozen 9
                  have z10 := b16.frozen 10
                  simp only [rcCells, List.getElem?_toArray, List.getElem?_cons_succ, List.getElem?_cons_zero] at y5 y6 y7 y8 y9 y10
                  clear b16
                  go_wp2_with fail
                  go_ret
                  obtain ⟨L2, lo2, hr2, hp2⟩ := HF.out.1
                  exact ⟨by rw [HE.out.1]; rfl, L2, lo2, hr2, hp2, HF.out.2⟩
    · have hz : (e.chk != 0) = true := by simp [hch]
      have hE : R.err e = 3 := by unfold Rcd.err; rw [hcl, if_neg (by decide), if_pos hch]
      go_wp2_with (first | (go_at_call 56; (refine hck.mono ?_); rintro a2 w2 ⟨rfl, hk2⟩; have h2 := h1.below hk2; have hB2 := hal.trans (hk2.mono hal.size); clear hck hk2 y12 c0 c1 c2 c3 c4 c5 he1 m hf h1 hal))
      have HE := Lib.hid (And.intro hE (HG.out.2.2 hB2 (by rw [hE]; decide) h2))
      clear hE
      go_ret
      exact ⟨by rw [HE.out.1]; rfl, HE.out.2⟩
  · rw [hcl] at y12
    have hE : R.err e = 2 := if_pos hcl
    have HE := Lib.hid (And.intro hE (HG.out.2.2 hal (by rw [hE]; decide) h1))
    clear hE
    go_wp2_with fail
    go_ret
    exact ⟨by rw [HE.out.1]; rfl, HE.out.2⟩
end
end Go.Proofs.Ytbfipgeoecbpaaa
