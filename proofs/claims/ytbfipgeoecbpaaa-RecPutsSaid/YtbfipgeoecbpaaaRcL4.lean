/- The walk of the statement of layer 23: RecBack. -/
import Derived.Test.YtbfipgeoecbpaaaRcD
import Derived.Test.YtbfipgeoecbpaaaRcH
namespace Go.Proofs.Ytbfipgeoecbpaaa
open Go.RowKit
set_option linter.unusedVariables false
set_option linter.unusedSimpArgs false
set_option maxRecDepth 20000
/-- A recorder and the list of what was put, beside a block that neither touches. -/
structure BkSt (w wr : World) (x rx room : Nat) (R : Rcd) (pv : Value) (l : List Ev) (P : Nat → Prop) : Prop where
  g : ∃ O, GRec wr x rx room R O ∧ ∀ k, O k → w.heap.size ≤ k ∧ ¬ P k ∧ pv.ownBlock ≠ some k
  own : wr.ownsRow w.heap.size 25 6 pv l.length (evCells l)
  hP : ∀ k, P k → k < wr.heap.size ∧ pv.ownBlock ≠ some k
  bel : Below w.heap.size w wr
section
variable {w wr w2 : World} {x rx room : Nat} {R : Rcd} {pv : Value} {l : List Ev} {P : Nat → Prop}
theorem BkSt.below (h : BkSt w wr x rx room R pv l P) (k : Below wr.heap.size wr w2) : BkSt w w2 x rx room R pv l P := by
  obtain ⟨O, g, hO⟩ := h.g
  exact ⟨⟨O, g.below k, hO⟩, own_below h.own k, fun i hi => ⟨Nat.lt_of_lt_of_le (h.hP i hi).1 k.size, (h.hP i hi).2⟩, h.bel.trans (k.mono h.bel.size)⟩
theorem BkSt.with_block (h : BkSt w wr x rx room R pv l P) (o : Obj) : BkSt w (wr.alloc o) x rx room R pv l (fun k => k = wr.heap.size) := by
  have k := (Below.refl wr.heap.size wr).alloc (Nat.le_refl _) o
  obtain ⟨O, g, hO⟩ := h.g
  exact ⟨⟨O, g.below k, fun i hi => ⟨(hO i hi).1, fun e => by have := g.foot i hi; omega, (hO i hi).2.2⟩⟩, own_below h.own k, fun i hi => ⟨by rw [hi]; simp, fun q => by have := (h.own.lt i q).2; omega⟩, h.bel.trans (k.mono h.bel.size)⟩
theorem BkSt.forget (h : BkSt w wr x rx room R pv l P) : BkSt w wr x rx room R pv l (fun _ => False) := by
  obtain ⟨O, g, hO⟩ := h.g
  exact ⟨⟨O, g, fun i hi => ⟨(hO i hi).1, fun e => e, (hO i hi).2.2⟩⟩, h.own, fun _ hi => hi.elim, h.bel⟩
theorem BkSt.step {R' : Rcd} {O : Nat → Prop} (h : BkSt w wr x rx room R pv l P) (hO : ∀ k, O k → w.heap.size ≤ k ∧ ¬ P k ∧ pv.ownBlock ≠ some k) (g : GRec w2 x rx room R' (grow O wr w2)) (on : Only O wr w2) :
    BkSt w w2 x rx room R' pv l P ∧ ∀ k o, P k → wr.heap[k]? = some o → w2.heap[k]? = some o := by
  refine ⟨⟨⟨_, g, ?_⟩, own_keep h.own fun j hj => on.block j (h.own.lt j hj).2 fun q => (hO j q).2.2 hj, fun i hi => ⟨Nat.lt_of_lt_of_le (h.hP i hi).1 on.size, (h.hP i hi).2⟩, h.bel.trans (on.below h.bel.size fun i hi q => by have := (hO i q).1; omega)⟩, fun k o hk ho => on.keeps ho fun q => (hO k q).2.1 hk⟩
  rintro k (q | q)
  · exact hO k q
  · exact ⟨Nat.le_trans h.bel.size q.1, fun e => by have := (h.hP k e).1; omega, fun e => by have := (h.own.lt k e).2; omega⟩
theorem bput_any (h : BkSt w wr x rx room R pv l P) (hn : R.cnt ≤ 4000) (e : Ev) (he : e.Wf) : Calls Try.prog 17 #[.pointer (some ⟨x, 0, none⟩), e.val] wr fun a w' => a = .returned (.int .i64 (R.err e)) ∧ BkSt w w' x rx room (R.put room e) pv l P ∧ ∀ k o, P k → wr.heap[k]? = some o → w'.heap[k]? = some o := by
  obtain ⟨O, g, hO⟩ := h.g
  refine (gput_any g (by have := cnt_le R; omega) e he).mono ?_
  rintro a w1 ⟨rfl, g1, on⟩
  exact ⟨rfl, h.step hO g1 on⟩
theorem bflush_any (h : BkSt w wr x rx room R pv l P) (hn : R.cnt ≤ 4000) : Calls Try.prog 15 #[.pointer (some ⟨x, 0, none⟩)] wr fun a w' => a = .returned (.tuple #[]) ∧ BkSt w w' x rx room R.flush pv l P := by
  obtain ⟨O, g, hO⟩ := h.g
  refine (gflush_any g (by have := cnt_le R; omega)).mono ?_
  rintro a w1 ⟨rfl, g1, on⟩
  exact ⟨rfl, (h.step hO g1 on).1⟩
theorem bclose_any (h : BkSt w wr x rx room R pv l P) (hn : R.cnt ≤ 4000) (cy ct : Nat) (h1 : cy < 18446744073709551616) (h2 : ct < 18446744073709551616) : Calls Try.prog 18 #[.pointer (some ⟨x, 0, none⟩), .int .u64 cy, .int .u64 ct] wr fun a w' => a = .returned (.int .i64 (R.err (closeEv cy ct))) ∧ BkSt w w' x rx room (R.close room cy ct) pv l P ∧ ∀ k o, P k → wr.heap[k]? = some o → w'.heap[k]? = some o := by
  obtain ⟨O, g, hO⟩ := h.g
  refine (gclose_any g (by have := cnt_le R; omega) cy ct h1 h2).mono ?_
  rintro a w1 ⟨rfl, g1, on⟩
  exact ⟨rfl, h.step hO g1 on⟩
theorem BkSt.app {pv' : Value} {e : Ev} (h : BkSt w wr x rx room R pv l P) (hg : wr.grownBy w2 pv.ownBlock) (own : w2.ownsRow w.heap.size 25 6 pv' (l.length + 1) (evCells l ++ evCells [e])) (hat : pv'.ownBlock = pv.ownBlock ∨ pv'.ownBlock = some wr.heap.size) : BkSt w w2 x rx room R pv' (l ++ [e]) (fun _ => False) := by
  have e1 : evCells (l ++ [e]) = evCells l ++ evCells [e] := by simp [evCells]
  obtain ⟨O, g, hO⟩ := h.g
  have on : Only (fun k => pv.ownBlock = some k) wr w2 := (Only.refl _ wr).grown hg fun k hk _ => hk
  refine ⟨⟨O, g.only on fun k hk q => (hO k hk).2.2 q, fun k hk => ⟨(hO k hk).1, fun q => q, fun q => ?_⟩⟩, by rw [e1, List.length_append]; exact own, fun _ hi => hi.elim, below_append h.bel h.own hg h.bel.size⟩
  rcases hat with q2 | q2
  · exact (hO k hk).2.2 (q2.symm.trans q)
  · rw [q] at q2
    have := Option.some.inj q2
    have := g.foot k hk
    omega
end
def BkL (w : World) (x rx room len : Nat) (z : Nat → OpR) (g : Nat) (i pv : Value) (wr : World) : Prop :=
  ∃ k : Nat, i = .int .i64 k ∧ k ≤ len ∧ BkSt w wr x rx room (opsR room z k) pv (opsR room z k).evs (fun _ => False) ∧ (opsR room z k).evs.length ≤ k ∧ len - k ≤ g
/-- A recorder's count of frames. -/
structure FrSt (w : World) (x : Nat) (n : Nat) : Prop where
  me : ∃ tb rb room vo sz e cl, w.heap[x]? = some (.cells (rcCells tb rb room vo sz e n cl) 102 (0, 0))
theorem FrSt.only {S : Nat → Prop} {w w' : World} {x n : Nat} (h : FrSt w x n) (o : Only S w w') (hn : ¬ S x) : FrSt w' x n := by
  obtain ⟨tb, rb, room, vo, sz, e, cl, h⟩ := h.me
  exact ⟨tb, rb, room, vo, sz, e, cl, o.keeps h hn⟩
theorem FrSt.lt {w : World} {x n : Nat} (h : FrSt w x n) : x < w.heap.size := by
  obtain ⟨tb, rb, room, vo, sz, e, cl, h⟩ := h.me
  exact blk_lt h
theorem fr_frames {w : World} {x n : Nat} (h : FrSt w x n) : Calls Try.prog 19 #[.pointer (some ⟨x, 0, none⟩)] w fun e w' => e = .returned (.int .i64 n) ∧ w = w' := by
  obtain ⟨tb, rb, room, vo, sz, e, cl, h⟩ := h.me
  have y := cell_blk h 11
  simp only [rcCells, List.getElem?_toArray, List.getElem?_cons_succ, List.getElem?_cons_zero] at y
  go_enter Try.func19, Try.ntmps19
  go_wp2_with fail
  go_ret
  exact ⟨rfl, rfl⟩
/-- Drain of all, the recorder's own memory kept. -/
theorem gdrain2_any {w : World} {x rb room : Nat} {R : Rcd} {O : Nat → Prop} (h : GRec w x rb room R O) : Calls Try.prog 25 #[.pointer (some ⟨rb, 0, none⟩), .int .i64 R.all.length] w fun e w' => e = .returned (.string ⟨R.all.toArray⟩) ∧ FrSt w' x R.fr.length ∧ Only O w w' ∧ O x := by
  have hl := h.all_le
  obtain ⟨tb, F, p, hF, _⟩ := h.p
  obtain ⟨vo, FR, m, hf⟩ := p.m
  refine (qdrain_any m.ring R.all.length (by omega) (by omega)).mono ?_
  rintro e w1 ⟨rfl, r1, on⟩
  have e : min (R.all.length : Int).toNat (txt 0 R.fr).flatten.length = R.all.length := by
    show min _ R.all.length = _
    omega
  rw [e] at r1 ⊢
  refine ⟨?_, ⟨_, _, _, _, _, _, _, on.keeps m.b.me m.xr⟩, on.mono fun k _ hk => hF k (hf k (.inr (.inr hk))), hF x (hf x (.inl rfl))⟩
  show Ending.returned (.string ⟨(R.all.take R.all.length).toArray⟩) = _
  rw [List.take_length]
theorem ownB (ao : Option Addr) (n m c : Nat) : (Value.slice ao n c).ownBlock = (Value.slice ao m c).ownBlock := by cases ao <;> rfl
theorem nil_appR (s : ByteArray) : (⟨#[]⟩ : ByteArray) ++ s = s := by
  have e : ((⟨#[]⟩ : ByteArray) ++ s).data.toList = s.data.toList := by simp
  exact (ba_eq e).trans (ba_eq rfl).symm
theorem slItm_own {w : World} {base t cap : Nat} {ao : Option Addr} {l : List Itm} (h : w.ownsRow base t 4 (.slice ao l.length cap) l.length (itCells l)) : SlArgN w ao l.length cap 4 (fun i j => (l.getD i default).f j) := by
  have hcells := fun g (hg : (Value.slice ao l.length cap).ownBlock = some g) => h.cells hg
  rcases h.2 with ⟨h1, h2⟩ | ⟨g, cp, cur, h1, _, hb, hnc, hcm, _⟩
  · simp only [Value.slice.injEq] at h1
    obtain ⟨rfl, h3, rfl⟩ := h1
    rw [h3]
    exact ⟨Nat.le_refl _, Nat.zero_le _, fun _ hi => absurd hi (Nat.not_lt_zero _)⟩
  · simp only [Value.slice.injEq] at h1
    obtain ⟨rfl, _, rfl⟩ := h1
    refine ⟨hnc, hcm, fun i hi => ⟨g, 0, rfl, blk_lt hb, fun j hj => ?_⟩⟩
    have q := hcells g rfl (i * 4 + j) _ (itCells_at l i j hi hj)
    rw [Go.WideShapes.add_plain] at q
    rw [show 0 + i * 4 + j = 0 + (i * 4 + j) from by omega]
    exact q
/-- A hunter that was fed a recorder's bytes, and closed; the items that it told; how many frames there are. -/
structure BkE (w : World) (b tb x : Nat) (fr : List (List Ev)) (B : Nat) (iv : Value) (its : List Itm) : Prop where
  hu : ∃ Y cl, IsHu w b tb Y fr.length 0 0 cl
  it : ItIn w B iv its
  map : its.map Itm.p = frIts 0 fr
  fs : FrSt w x fr.length
theorem BkE.below {w w' : World} {b tb x B : Nat} {fr : List (List Ev)} {iv : Value} {its : List Itm} (h : BkE w b tb x fr B iv its) (k : Below w.heap.size w w') : BkE w' b tb x fr B iv its := by
  obtain ⟨Y, cl, hu⟩ := h.hu
  exact ⟨⟨Y, cl, hu.below k⟩, h.it.below k, h.map, h.fs.only (Only.of_below k (fun _ => False)) fun q => q⟩
theorem BkE.at {w : World} {b tb x B : Nat} {fr : List (List Ev)} {iv : Value} {its : List Itm} (h : BkE w b tb x fr B iv its) {i : Nat} (hi : i < its.length) : (its.getD i default).k = 1 ∧ (its.getD i default).seq = i ∧ (its.getD i default).lost = 0 ∧ (its.getD i default).evs = fr.getD i [] := by
  have hl := congrArg List.length h.map
  rw [List.length_map, frIts_len] at hl
  have h1 : (its.map Itm.p)[i]? = some (its.getD i default).p := by
    rw [List.getElem?_map, List.getElem?_eq_getElem hi, List.getD_eq_getElem?_getD, List.getElem?_eq_getElem hi]; rfl
  rw [h.map, frIts_at fr 0 i (by omega), Nat.zero_add] at h1
  have := Option.some.inj h1
  have e1 := congrArg (fun p : PIt => p.1) this
  have e2 := congrArg (fun p : PIt => p.2.1) this
  have e3 := congrArg (fun p : PIt => p.2.2.1) this
  have e4 := congrArg (fun p : PIt => p.2.2.2) this
  exact ⟨e1.symm, e2.symm, e3.symm, e4.symm⟩
def BgR (w : World) (fr : List (List Ev)) (g : Nat) (i gv : Value) (wr : World) : Prop :=
  ∃ k : Nat, i = .int .i64 k ∧ k ≤ fr.length ∧ wr.ownsRow w.heap.size 25 6 gv (fr.take k).flatten.length (evCells (fr.take k).flatten) ∧ Below w.heap.size w wr ∧ fr.length - k ≤ g
theorem take_flat {fr : List (List Ev)} {k : Nat} (h : k < fr.length) : (fr.take (k + 1)).flatten = (fr.take k).flatten ++ fr.getD k [] := by
  rw [List.take_add_one, List.flatten_append, List.getD_eq_getElem?_getD, List.getElem?_eq_getElem h]
  simp
theorem flat_le (fr : List (List Ev)) (k : Nat) : (fr.take k).flatten.length ≤ fr.flatten.length := by
  have : fr.flatten = (fr.take k).flatten ++ (fr.drop k).flatten := by rw [← List.flatten_append, List.take_append_drop]
  rw [this, List.length_append]; omega
set_option maxHeartbeats 8000000 in
theorem recBack_law (room0 : Int) (oa : Option Addr) (len cap : Nat) (z : Nat → OpR) (w : World) (_hr0 : (Lit.int .i64 room0).wf = true) (hs : SlArgN w oa len cap 7 (fun i j => (z i).f j)) (hr : cap * 48 ≤ 140737488351232) (hx : ∀ i, i < len → (z i).Wf) :
    Calls Try.prog 8 #[.int .i64 room0, .slice oa len cap] w fun e w' => e = .returned (.bool true) ∧ Below w.heap.size w w' := by
  by_cases hb : room0 < 20 ∨ 120 < room0
  · go_enter Try.func8, Try.ntmps8
    go_wp2_with fail
    refine (fresh_bad _ hb _).mono ?_
    rintro a w1 ⟨rb, rfl, hk1⟩
    go_wp2_with fail
    refine (awake23 _).mono ?_
    rintro a w3 ⟨rfl, hk3⟩
    go_wp2_with fail
    refine (awake23 _).mono ?_
    rintro a w4 ⟨rfl, hk4⟩
    go_wp2_with fail
    go_ret
    have b2 := hk1.trans (hk3.mono hk1.size)
    exact ⟨rfl, b2.trans (hk4.mono b2.size)⟩
  · obtain ⟨room, rfl⟩ : ∃ room : Nat, room0 = room := ⟨room0.toNat, by omega⟩
    have r1 : 20 ≤ room := by omega
    have r2 : room ≤ 120 := by omega
    clear hb
    go_enter Try.func8, Try.ntmps8
    go_wp2_with fail
    refine (fresh_any room r1 r2 _).mono ?_
    rintro a w1 ⟨x, rx, O, rfl, g, hO, hk1⟩
    have st : BkSt w w1 x rx room rcd0 (.slice none 0 0) [] (fun _ => False) := ⟨⟨O, g, fun k hk => ⟨hO k hk, fun q => q, fun q => by cases q⟩⟩, World.ownsRow_nil _ _ _ _, fun _ hi => hi.elim, hk1⟩
    clear g hO hk1
    go_wp2_with fail
    refine (awake23 _).mono ?_
    rintro a w2 ⟨rfl, hk2⟩
    have st := st.below hk2
    clear hk2
    by_cases hl : len ≤ 300
    · have hd : decide ((300 : Int) < len) = false := by simp; omega
      go_wp2_with fail
      clear hd
      go_loopg [35, 7] (len) (fun g i pv wr => BkL w x rx room len z g i pv wr)
      case atStart => exact ⟨0, rfl, Nat.zero_le _, st, Nat.le_refl _, by omega⟩
      case round =>
        clear st
        obtain ⟨k, rfl, hk, st, hel, hg⟩ := hrel
        have hcn := ops_cnt room z k
        by_cases hlt : k < len
        · have hlt' : (k : Int) < len := by omega
          have hs1 := hs.kept st.bel
          obtain ⟨b, off, hoa, hbl, hc⟩ := hs1.2.2 k hlt
          obtain ⟨p, hp⟩ : ∃ p, p = z k := ⟨_, rfl⟩
          have c0 := hc 0 (by decide)
          have c1 := hc 1 (by decide)
          have c2 := hc 2 (by decide)
          have c3 := hc 3 (by decide)
          have c4 := hc 4 (by decide)
          have c5 := hc 5 (by decide)
          have c6 := hc 6 (by decide)
          dsimp only [OpR.f, Ev.f, Nat.add_zero] at c0 c1 c2 c3 c4 c5 c6
          rw [← hp] at c0 c1 c2 c3 c4 c5 c6
          subst hoa
          have hw : p.Wf := by rw [hp]; exact hx k hlt
          have hpn : opsR room z (k + 1) = p.go room (opsR room z k) := by rw [hp]; rfl
          have HE := Lib.hid (And.intro hp hpn)
          have st1 := st.with_block (.cells #[.int .i64 p.k, .int .i64 p.e.k, .int .u64 p.e.cy, .int .u64 p.e.ct, .int .u32 p.e.a, .int .u32 p.e.b, .int .u32 p.e.v] 59)
          have hblk := heap_alloc_new wr (.cells #[.int .i64 p.k, .int .i64 p.e.k, .int .u64 p.e.cy, .int .u64 p.e.ct, .int .u32 p.e.a, .int .u32 p.e.b, .int .u32 p.e.v] 59)
          obtain ⟨ao, cpv, hpv⟩ := owns_form st.own
          obtain ⟨n, hn⟩ : ∃ n, n = (opsR room z k).evs.length := ⟨_, rfl⟩
          rw [← hn] at hpv hel
          subst hpv
          clear hp hpn hc hs1 st
          go_upto_region 8 with fail
          obtain ⟨o, ho⟩ : ∃ o, o = wr.heap.size := ⟨_, rfl⟩
          try rw [← ho] at st1 hblk ⊢
          clear ho c0 c1 c2 c3 c4 c5 c6
          generalize wr.alloc (.cells #[.int .i64 p.k, .int .i64 p.e.k, .int .u64 p.e.cy, .int .u64 p.e.ct, .int .u32 p.e.a, .int .u32 p.e.b, .int .u32 p.e.v] 59) = w5 at *
          obtain ⟨RL, hRL⟩ : ∃ RL, RL = opsR room z k := ⟨_, rfl⟩
          rw [← hRL] at st1 hcn hn
          have HRL := Lib.hid hRL
          have HN := Lib.hid hn
          have heln : n ≤ k := hel
          clear hn
          have hel2 := HN.out
          clear hel2
          obtain ⟨i0, hi, hz0, hz1, hz2⟩ := ev_info
          have ul : Try.prog.underlying 40 = some (.slice 25) := by kernel_rfl
          have hev : p.e.Wf := hw.e
          obtain ⟨c0, c1, c2, c3, c4, c5, c6⟩ := op_cells (p := p) hblk
          by_cases k1 : p.k = 1
          · have hgo : p.go room RL = RL.put room p.e := if_pos k1
            have k1b : (p.k == 1) = true := by simp [k1]
            have k1d : decide (p.k = 1) = true := decide_eq_true k1
            have hput := bput_any st1 (by omega) p.e hev
            by_cases herr : RL.err p.e = 0
            · rw [herr] at hput
              have hevs := evs_put (room := room) herr
              unfold Ev.val at hput
              go_upto_region 11 with ((go_at_call 17; (with_reducible refine hput.mono ?_); rintro a w6 ⟨rfl, st6, hkeep⟩))
              have hblk6 := hkeep o _ rfl hblk
              clear hput hkeep c0 c1 c2 c3 c4 c5 c6 hblk st1
              obtain ⟨c0, c1, c2, c3, c4, c5, c6⟩ := op_cells (p := p) hblk6
              have st7 := st6.below ((Below.refl w6.heap.size w6).alloc (Nat.le_refl _) (.cells #[.int .i64 p.e.k, .int .u64 p.e.cy, .int .u64 p.e.ct, .int .u32 p.e.a, .int .u32 p.e.b, .int .u32 p.e.v] 25))
              have hown7 := st7.own
              rw [← HN.out] at hown7
              have hsr := src_ev w6 p.e
              have hbs := st6.bel.size
              go_wp2_with (at_builtin; (refine list_append rfl (.tmp 48) (.tmp 51) 40 rfl w.heap.size (by simp; omega) 25 i0 _ 6 40 ul hi hz0 hz1 hz2 rfl (by decide) (.slice ao n cpv) n (evCells RL.evs) rfl hown7 _ 1 (evCells [p.e]) rfl rfl hsr (evCells_one _) (by unfold maxLen; omega) (by omega) ?_); intro ao8 cp8 w8 hown8 hg8 hat8)
              have hn := HN.out
              subst hn
              have st8 := st7.app hg8 (by exact hown8) hat8
              obtain ⟨gg, rfl⟩ : ∃ gg, gk = gg + 1 := ⟨gk - 1, by omega⟩
              go_roundg gg
              case measure => omega
              case rel => exact ⟨k + 1, by go_num, by omega, by rw [HE.out.2, ← HRL.out, hgo, hevs]; exact st8, by rw [HE.out.2, ← HRL.out, hgo, hevs, List.length_append]; simp; omega, by omega⟩
            · have hz : (RL.err p.e == 0) = false := beq_eq_false_iff_ne.2 herr
              have hz2 : decide (RL.err p.e = 0) = false := decide_eq_false herr
              have hpb : RL.put room p.e = RL := if_pos herr
              obtain ⟨E, hE⟩ : ∃ E, E = RL.err p.e := ⟨_, rfl⟩
              rw [← hE] at hput hz hz2
              clear hE herr
              unfold Ev.val at hput
              go_wp2_with ((go_at_call 17; (with_reducible refine hput.mono ?_); rintro a w6 ⟨rfl, st6, hkeep⟩))
              rw [hpb] at st6
              obtain ⟨gg, rfl⟩ : ∃ gg, gk = gg + 1 := ⟨gk - 1, by omega⟩
              go_roundg gg
              case measure => omega
              case rel => exact ⟨k + 1, by go_num, by omega, by rw [HE.out.2, ← HRL.out, hgo, hpb]; exact st6.forget, by rw [HE.out.2, ← HRL.out, hgo, hpb, ← HN.out]; omega, by omega⟩
          · have k1b : (p.k == 1) = false := by simp [k1]
            have k1d : decide (p.k = 1) = false := decide_eq_false k1
            by_cases k2 : p.k = 2
            · have hgo : p.go room RL = RL.flush := by unfold OpR.go; rw [if_neg k1, if_pos k2]
              have k2b : (p.k == 2) = true := by simp [k2]
              have k2d : decide (p.k = 2) = true := decide_eq_true k2
              have hfl := bflush_any st1 (by omega)
              go_wp2_with ((go_at_call 15; (with_reducible refine hfl.mono ?_); rintro a w6 ⟨rfl, st6⟩))
              obtain ⟨gg, rfl⟩ : ∃ gg, gk = gg + 1 := ⟨gk - 1, by omega⟩
              go_roundg gg
              case measure => omega
              case rel => exact ⟨k + 1, by go_num, by omega, by rw [HE.out.2, ← HRL.out, hgo, evs_flush]; exact st6.forget, by rw [HE.out.2, ← HRL.out, hgo, evs_flush, ← HN.out]; omega, by omega⟩
            · have k2b : (p.k == 2) = false := by simp [k2]
              have k2d : decide (p.k = 2) = false := decide_eq_false k2
              by_cases k3 : p.k = 3
              · have hgo : p.go room RL = RL.close room p.e.cy p.e.ct := by unfold OpR.go; rw [if_neg k1, if_neg k2, if_pos k3]
                have k3b : (p.k == 3) = true := by simp [k3]
                have k3d : decide (p.k = 3) = true := decide_eq_true k3
                have hclo := bclose_any st1 (by omega) p.e.cy p.e.ct hev.cy hev.ct
                by_cases herr : RL.err (closeEv p.e.cy p.e.ct) = 0
                · rw [herr] at hclo
                  have hevs := evs_close (room := room) herr
                  go_upto_region 16 with ((go_at_call 18; (with_reducible refine hclo.mono ?_); rintro a w6 ⟨rfl, st6, hkeep⟩))
                  have hblk6 := hkeep o _ rfl hblk
                  clear hclo hkeep c0 c1 c2 c3 c4 c5 c6 hblk st1
                  obtain ⟨c0, c1, c2, c3, c4, c5, c6⟩ := op_cells (p := p) hblk6
                  have st7 := st6.below ((Below.refl w6.heap.size w6).alloc (Nat.le_refl _) (.cells #[.int .i64 24, .int .u64 p.e.cy, .int .u64 p.e.ct, .int .u32 0, .int .u32 0, .int .u32 0] 25))
                  have hown7 := st7.own
                  rw [← HN.out] at hown7
                  have hsr := src_ev w6 (closeEv p.e.cy p.e.ct)
                  have hbs := st6.bel.size
                  go_wp2_with (at_builtin; (refine list_append rfl (.tmp 68) (.tmp 76) 40 rfl w.heap.size (by simp; omega) 25 i0 _ 6 40 ul hi hz0 hz1 hz2 rfl (by decide) (.slice ao n cpv) n (evCells RL.evs) rfl hown7 _ 1 (evCells [closeEv p.e.cy p.e.ct]) rfl rfl hsr (evCells_one _) (by unfold maxLen; omega) (by omega) ?_); intro ao8 cp8 w8 hown8 hg8 hat8)
                  have hn := HN.out
                  subst hn
                  have st8 := st7.app hg8 (by exact hown8) hat8
                  obtain ⟨gg, rfl⟩ : ∃ gg, gk = gg + 1 := ⟨gk - 1, by omega⟩
                  go_roundg gg
                  case measure => omega
                  case rel => exact ⟨k + 1, by go_num, by omega, by rw [HE.out.2, ← HRL.out, hgo, hevs]; exact st8, by rw [HE.out.2, ← HRL.out, hgo, hevs, List.length_append]; simp; omega, by omega⟩
                · have hz : (RL.err (closeEv p.e.cy p.e.ct) == 0) = false := beq_eq_false_iff_ne.2 herr
                  have hz2 : decide (RL.err (closeEv p.e.cy p.e.ct) = 0) = false := decide_eq_false herr
                  have hpb : RL.close room p.e.cy p.e.ct = RL := if_pos herr
                  obtain ⟨E, hE⟩ : ∃ E, E = RL.err (closeEv p.e.cy p.e.ct) := ⟨_, rfl⟩
                  rw [← hE] at hclo hz hz2
                  clear hE
                  go_wp2_with ((go_at_call 18; (with_reducible refine hclo.mono ?_); rintro a w6 ⟨rfl, st6, hkeep⟩))
                  rw [hpb] at st6
                  obtain ⟨gg, rfl⟩ : ∃ gg, gk = gg + 1 := ⟨gk - 1, by omega⟩
                  go_roundg gg
                  case measure => omega
                  case rel => exact ⟨k + 1, by go_num, by omega, by rw [HE.out.2, ← HRL.out, hgo, hpb]; exact st6.forget, by rw [HE.out.2, ← HRL.out, hgo, hpb, ← HN.out]; omega, by omega⟩
              · have k3b : (p.k == 3) = false := by simp [k3]
                have k3d : decide (p.k = 3) = false := decide_eq_false k3
                have hgo : p.go room RL = RL := by unfold OpR.go; rw [if_neg k1, if_neg k2, if_neg k3]
                go_wp2_with fail
                obtain ⟨gg, rfl⟩ : ∃ gg, gk = gg + 1 := ⟨gk - 1, by omega⟩
                go_roundg gg
                case measure => omega
                case rel => exact ⟨k + 1, by go_num, by omega, by rw [HE.out.2, ← HRL.out, hgo]; exact st1.forget, by rw [HE.out.2, ← HRL.out, hgo, ← HN.out]; omega, by omega⟩
        · have hlt' : ¬ (k : Int) < len := by omega
          obtain rfl : k = len := by omega
          have hfl := bflush_any st (by omega)
          go_upto_region 19 with ((go_at_call 15; (with_reducible refine hfl.mono ?_); rintro a w6 ⟨rfl, st6⟩))
          clear hfl st hs hx hg hlt hlt'
          obtain ⟨R1, hR1⟩ : ∃ R1, R1 = (opsR room z k).flush := ⟨_, rfl⟩
          have hop : R1.op = [] := by rw [hR1]; exact flush_op _
          have hev : (opsR room z k).evs = R1.fr.flatten := by
            rw [← evs_flush, ← hR1]
            unfold Rcd.evs
            rw [hop, List.append_nil]
          have hcn1 : R1.fr.length ≤ 300 := by have := cnt_le R1; rw [hR1, cnt_flush] at this; rw [hR1]; omega
          rw [← hR1, hev] at st6
          rw [hev] at hel
          clear hR1 hev hcn hop
          obtain ⟨ao, cpv, hpv⟩ := owns_form st6.own
          obtain ⟨N, hN⟩ : ∃ N, N = R1.fr.flatten.length := ⟨_, rfl⟩
          rw [← hN] at hpv hel
          subst hpv
          have hown6 := st6.own
          rw [← hN] at hown6
          have hB6 := st6.bel
          obtain ⟨O, g6, hO⟩ := st6.g
          have hinv := g6.inv
          have hall := rc_all hinv.1 hinv.2.1 (by omega)
          have hO6 := g6.foot
          obtain ⟨fr, hfr⟩ : ∃ fr, fr = R1.fr := ⟨_, rfl⟩
          rw [← hfr] at hown6 hall hcn1 hN
          have HNf := Lib.hid (And.intro hN hfr)
          clear hN hfr
          clear st6
          have hs6 := hB6.size
          have hpl6 : ∀ j, (Value.slice ao N cpv).ownBlock = some j → j < w6.heap.size := fun j hj => (hown6.lt j hj).2
          have g6 : GRec w6 x rx room R1 O := g6
          go_wp2_with fail
          refine (make_any _).mono ?_
          rintro a w7 ⟨rfl, hT7, hk7⟩
          have g7 := g6.below hk7
          have hown7 := own_below hown6 hk7
          have hB7 := hB6.trans (hk7.mono hB6.size)
          have hs7 := hk7.size
          have htl : w6.heap.size < w7.heap.size := blk_lt hT7.choose_spec.1
          clear g6 hown6 hB6 hk7
          go_wp2_with fail
          refine (hnew_any w7 w6.heap.size).mono ?_
          rintro a w8 ⟨rfl, hH8, hk8⟩
          have g8 := g7.below hk8
          have hown8 := own_below hown7 hk8
          have hB8 := hB7.trans (hk8.mono hB7.size)
          have hT8 := hT7.kept hk8
          have hbl : w7.heap.size < w8.heap.size := blk_lt hH8
          clear g7 hown7 hB7 hk8 hT7
          go_wp2_with fail
          refine (gused_any g8).mono ?_
          rintro a w9 ⟨rfl, rfl⟩
          go_wp2_with fail
          refine (gdrain2_any g8).mono ?_
          rintro a w9 ⟨rfl, fs9, on9, hOx⟩
          have fs9 : FrSt w9 x fr.length := by rw [HNf.out.2]; exact fs9
          have hown9 := own_keep hown8 fun j hj => on9.block j (hown8.lt j hj).2 fun q => (hO j q).2.2 hj
          have hB9 := hB8.trans (on9.below hB8.size fun i hi q => by have := (hO i q).1; omega)
          have hT9 := hT8.only on9 (fun q => by have := hO6 _ q; omega)
          have hH9 : IsHu w9 w7.heap.size w6.heap.size ⟨#[]⟩ 0 0 0 false := on9.keeps hH8 fun q => by have := hO6 _ q; omega
          have hxl := hO6 _ hOx
          obtain ⟨X, hX⟩ : ∃ X : ByteArray, X = ⟨R1.all.toArray⟩ := ⟨_, rfl⟩
          have hXs : X.size ≤ 1048576 := by rw [hX]; have := g8.all_le; show (List.toArray R1.all).size ≤ _; rw [List.size_toArray]; exact this
          have hall2 : ∀ cl, hfin X cl hs0 = ⟨frIts 0 fr, X.size, fr.length, 0, 0⟩ := by
            intro cl
            rw [hX, HNf.out.2]
            exact rc_all hinv.1 hinv.2.1 (by rw [← HNf.out.2]; omega) cl
          rw [← hX]
          clear hall hX g8 hown8 hB8 hT8 hH8 on9 hO6 hOx
          have hbl9 := blk_lt hH9
          have htl9 : w6.heap.size < w9.heap.size := by omega
          have hfeed := feed_abs (Fed.new hH9) X hT9 (by omega) (by show 0 + X.size ≤ _; omega)
          rw [nil_appR, hall2 false] at hfeed
          have hW := Lib.hid hO
          clear hO
          go_wp2_with fail
          refine hfeed.mono ?_
          rintro a w10 ⟨ao1, cap1, its, rfl, hits, hin, fed10, on10⟩
          have hits : its.map Itm.p = frIts 0 fr := hits.symm
          have hlen0 : its.length = fr.length := by have := congrArg List.length hits; rwa [List.length_map, frIts_len] at this
          have hlen1 : its.length ≤ 300 := by omega
          have hlen := Lib.hid (And.intro hlen0 hits)
          clear hlen0 hits
          have hob : ∀ j, (Value.slice ao N cpv).ownBlock = some j → j ≠ w7.heap.size := fun j hj e => by
            have := hpl6 j hj
            omega
          have hown10 := own_keep hown9 fun j hj => on10.block j (hown9.lt j hj).2 (hob j hj)
          have hB10 := hB9.trans (on10.below hB9.size fun i hi (q : i = w7.heap.size) => by omega)
          have hT10 := hT9.only on10 (by omega)
          have fs10 := fs9.only on10 (fun q => by have : x = w7.heap.size := q; omega)
          clear hown9 hB9 hT9 fs9 hfeed
          have hclose := close_abs fed10 hT10 (by omega) (by omega)
          have hstop : hfin X true ⟨frIts 0 fr, X.size, fr.length, 0, 0⟩ = ⟨frIts 0 fr, X.size, fr.length, 0, 0⟩ := hfin_stop (by unfold hstop; simp)
          rw [hstop] at hclose
          go_wp2_with fail
          refine hclose.mono ?_
          rintro a w11 ⟨ao2, cap2, m2, rfl, hits2, hin2, fed11, on11⟩
          have hm2 : m2 = [] := by
            have := congrArg List.length hits2
            rw [List.length_append, List.length_map] at this
            exact List.eq_nil_of_length_eq_zero (by omega)
          subst hm2
          have hin11 := hin.only on11 (fun k (hk : k = w7.heap.size) => by omega)
          have hi11 := hin11.own
          have hown11 := own_keep hown10 fun j hj => on11.block j (hown10.lt j hj).2 (hob j hj)
          have hB11 := hB10.trans (on11.below hB10.size fun i hi (q : i = w7.heap.size) => by omega)
          have fs11 := fs10.only on11 (fun q => by have : x = w7.heap.size := q; omega)
          have hsr2 : Src w11 (.slice ao2 0 cap2) 0 (itCells []) := src_own hin2.own rfl
          have hb11 : w9.heap.size ≤ w11.heap.size := Nat.le_trans on10.size on11.size
          obtain ⟨i0, hi0, hz0, hz1, hz2⟩ := itm_info
          have hln0 : its.length + 0 ≤ maxLen := by unfold maxLen; omega
          have hln1 : (its.length + 0) * 40 ≤ 140737488355328 := by omega
          have hw9 : w.heap.size ≤ w9.heap.size := by omega
          have HL := Lib.hid (And.intro hln0 hln1)
          have hii11 := Lib.hid hin11
          clear hclose hstop hits2 hin2 hin hin11 hT10
          go_wp2_with (at_builtin; (refine list_append rfl (.tmp 92) (.tmp 94) 45 rfl w9.heap.size hb11 49 i0 _ 4 40 ul_items hi0 hz0 hz1 hz2 rfl (by decide) (.slice ao1 its.length cap1) its.length (itCells its) rfl hi11 _ 0 (itCells []) rfl rfl hsr2 (fun u hu => by cases hu) hln0 hln1 ?_); intro ao3 cp3 w12 hown12 hg12 hat12)
          have hE12 : BkE w12 w7.heap.size w6.heap.size x fr w9.heap.size (.slice ao3 its.length cp3) its := ⟨⟨_, _, fed11.hu.grow hi11 (by omega) hg12⟩, by have := hii11.out.grow (m := []) (fun x hx => by cases hx) hg12 hown12; simpa using this, hlen.out.2, fs11.only ((Only.refl _ w11).grown hg12 fun k hk _ => hk) (fun q => by have := (hi11.lt x q).1; omega)⟩
          have hown13 := own_grow hown11 hi11 (by decide) hg12
          have hB12 := below_append hB11 (World.ownsRow.mono hi11 hw9) hg12 (by omega)
          clear hown12 hg12 hat12 hi11 hsr2 hii11 fed11 fs11 hown11 hB11
          go_loopg [98, 13] (fr.length) (fun g i gv wr => BgR w12 fr g i gv wr)
          case atStart => exact ⟨0, rfl, Nat.zero_le _, World.ownsRow_nil _ _ _ _, Below.refl _ _, by omega⟩
          case round =>
            obtain ⟨j, rfl, hj, hgo, hbel, hg⟩ := hrel
            have hE := hE12.below hbel
            obtain ⟨ao4, cp4, hgv⟩ := owns_form hgo
            have hle : (fr.take j).flatten.length ≤ 300 := by have := flat_le fr j; have := HNf.out.1; omega
            obtain ⟨G, hG⟩ : ∃ G, G = (fr.take j).flatten.length := ⟨_, rfl⟩
            rw [← hG] at hgv hgo hle
            subst hgv
            have HG := Lib.hid hG
            clear hG
            by_cases hlt : j < fr.length
            · have hlt2 : j < its.length := by have := hlen.out.1; omega
              have hlt' : (j : Int) < its.length := by omega
              obtain ⟨b', off, hoa, hbl', hc⟩ := (slItm_own hE.it.own).2.2 j hlt2
              have hEv : EvIn wr w9.heap.size (its.getD j default) := hE.it.evs _ (by rw [List.getD_eq_getElem?_getD, List.getElem?_eq_getElem hlt2]; exact List.getElem_mem hlt2)
              obtain ⟨t1, t2, t3, t4⟩ := hE.at hlt2
              obtain ⟨⟨so, sc, hsv⟩, hevo⟩ := hEv
              have c0 := hc 0 (by decide)
              have c1 := hc 1 (by decide)
              have c2 := hc 2 (by decide)
              have c3 := hc 3 (by decide)
              dsimp only [Itm.f, Nat.add_zero] at c0 c1 c2 c3
              rw [t1] at c0
              rw [t2] at c1
              rw [t3] at c2
              rw [hsv] at c3 hevo
              rw [t4] at c3 hevo
              subst hoa
              obtain ⟨F, hF⟩ : ∃ F, F = fr.getD j [] := ⟨_, rfl⟩
              rw [← hF] at c3 hevo
              have hFl : F.length ≤ 300 := by
                have h1 := flat_le fr (j + 1)
                rw [take_flat hlt, List.length_append, ← hF] at h1
                have := HNf.out.1
                omega
              have HF := Lib.hid hF
              clear hF t1 t2 t3 t4 hc hsv hE
              have hal := (Below.refl wr.heap.size wr).alloc (Nat.le_refl _) (.cells #[.int .i64 1, .int .u32 j, .int .u32 0, .slice so F.length sc] 49)
              have hevo2 := own_below hevo hal
              have hgo2 := own_below hgo hal
              have hsr := src_own hevo2 (evCells_length _)
              obtain ⟨i1, hi1, hy0, hy1, hy2⟩ := ev_info
              have ul : Try.prog.underlying 40 = some (.slice 25) := by kernel_rfl
              have u1 : IntKind.u64.wrap (j : Int) = j := by rw [IntKind.wrap_u64]; omega
              have hbs := hbel.size
              have hbel2 := hbel.trans (hal.mono hbs)
              go_wp2_with (at_builtin; (refine list_append rfl (.tmp 114) (.tmp 116) 40 rfl w12.heap.size (by simp; omega) 25 i1 _ 6 40 ul hi1 hy0 hy1 hy2 rfl (by decide) (.slice ao4 G cp4) G (evCells (fr.take j).flatten) rfl hgo2 _ F.length (evCells F) rfl (evCells_length _) hsr (evCells_one _) (by unfold maxLen; omega) (by omega) ?_); intro ao8 cp8 w13 hown8 hg8 hat8; have hbel3 := below_append hbel2 hgo2 hg8 (by simp; omega); clear hat8 hg8)
              obtain ⟨gg, rfl⟩ : ∃ gg, gk = gg + 1 := ⟨gk - 1, by omega⟩
              go_roundg gg
              case measure => omega
              case rel =>
                have e1 : evCells ((fr.take j).flatten ++ F) = evCells (fr.take j).flatten ++ evCells F := by simp [evCells]
                refine ⟨j + 1, by go_num, by omega, ?_, hbel3, by omega⟩
                rw [take_flat hlt, ← HF.out, List.length_append, ← HG.out, e1]
                exact hown8
            · have hlt2 : ¬ j < its.length := by have := hlen.out.1; omega
              have hlt' : ¬ (j : Int) < its.length := by omega
              obtain rfl : j = fr.length := by omega
              have hown14 := own_below hown13 hbel
              have hGN : G = N := by rw [HG.out, HNf.out.1, List.take_length]
              subst hGN
              rw [List.take_length] at hgo
              have hGf : G = fr.flatten.length := HNf.out.1
              have s1 := slArgN_own (l := fr.flatten) (ao := ao4) (cap := cp4) (by rw [← hGf]; exact hgo)
              have s2 := slArgN_own (l := fr.flatten) (ao := ao) (cap := cpv) (by rw [← hGf]; exact hown14)
              rw [← hGf] at s1 s2
              have hsame := fun n => rsame_eq (wr.drewN n) ao4 ao G cp4 cpv (fun i => fr.flatten.getD i default) (s1.kept (kept_drewN wr n)) (s2.kept (kept_drewN wr n)) (by omega)
              have hsame0 := rsame_eq wr ao4 ao G cp4 cpv (fun i => fr.flatten.getD i default) s1 s2 (by omega)
              have hEQ := Lib.hid (And.intro hE (And.intro hB12 (And.intro hbel hlen.out.1)))
              clear hGf s1 s2 hown14 hgo hown13 hE12 hE
              obtain ⟨Y, cl, hu⟩ := hEQ.out.1.hu
              have hfs := hEQ.out.1.fs
              have hfrm := fun n => fr_frames (hfs.only (Only.ofDrewN (fun _ => False) wr n) fun q => q)
              have hsk := fun n => hskipped_any (wr.drewN n) _ _ _ _ _ _ _ (hu.below (kept_drewN wr n))
              have hlo := fun n => hlost_any (wr.drewN n) _ _ _ _ _ _ _ (hu.below (kept_drewN wr n))
              have hee : (its.length : Int) = fr.length := by have := hlen.out.1; omega
              clear hu hfs
              go_wp2_with (first | (go_at_call 35; (with_reducible refine hsame0.mono ?_); rintro a w14 ⟨rfl, ⟨nq, rfl⟩⟩; clear hsame0 hsame) | (go_at_call 19; (refine (hfrm _).mono ?_); rintro a w15 ⟨rfl, rfl⟩) | (go_at_call 36; (refine (hsk _).mono ?_); rintro a w15 ⟨rfl, rfl⟩) | (go_at_call 37; (refine (hlo _).mono ?_); rintro a w15 ⟨rfl, rfl⟩))
              go_ret
              obtain ⟨_, q2, q3, q4⟩ := hEQ.out
              have q5 := q2.trans (q3.mono q2.size)
              exact ⟨by simp, q5.trans ((kept_drewN wr nq).mono q5.size)⟩
    · have hd : decide ((300 : Int) < len) = true := by simp; omega
      go_wp2_with fail
      refine (awake23 _).mono ?_
      rintro a w4 ⟨rfl, hk4⟩
      go_wp2_with fail
      go_ret
      exact ⟨rfl, (st.below hk4).bel⟩
end Go.Proofs.Ytbfipgeoecbpaaa
