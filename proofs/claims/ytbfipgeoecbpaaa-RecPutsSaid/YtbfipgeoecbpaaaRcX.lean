/- The document's recorder (ref23): size, Put, Close. No condition but those that each names. (Printed by gen_rcx.py.) -/
import Derived.Test.YtbfipgeoecbpaaaRcV
import Derived.Test.YtbfipgeoecbpaaaRcW
namespace Go.Proofs.Ytbfipgeoecbpaaa
open Go.RowKit
set_option linter.unusedVariables false
set_option linter.unusedSimpArgs false
set_option maxRecDepth 20000
theorem src_blkX {w : World} {b : Nat} {e : Ev} {T : TypeId} (h : w.heap[b]? = some (.cells e.cells.toArray T (0, 0))) : Src w (.slice (some ⟨b, 0, none⟩) 1 1) 1 (evCells [e]) := by
  refine .inr ⟨_, 1, rfl, fun j u hj => ?_⟩
  rw [Go.WideShapes.add_plain, cell_blk h]
  have e1 : evCells [e] = e.cells := by simp [evCells]
  rw [e1] at hj
  rw [← hj, Nat.zero_add]
  simp
def szL (l : List Ev) : Int := if prnE (fun i => l.getD i default) l.length = 0 then ((lB l).length : Int) else -1
theorem rsize_any (w : World) (ao : Option Addr) (n cap : Nat) (l : List Ev) (hn : n = l.length) (hsl : SlArgN w ao n cap 6 (fun i j => (l.getD i default).f j)) (hwf : ∀ i, i < l.length → (l.getD i default).Wf) (hlen : l.length ≤ 100000) :
    Calls Try.prog 62 #[.slice ao n cap] w fun a w' => a = .returned (.int .i64 (szL l)) ∧ Below w.heap.size w w' := by
  subst hn
  have hpr := rprn_any w ao l.length cap (fun i => l.getD i default) hsl hwf hlen
  obtain ⟨E, hE⟩ : ∃ E, E = prnE (fun i => l.getD i default) l.length := ⟨_, rfl⟩
  obtain ⟨S, hS⟩ : ∃ S : ByteArray, S = ⟨(prnS (fun i => l.getD i default) l.length).toArray⟩ := ⟨_, rfl⟩
  rw [← hE, ← hS] at hpr
  have hsz : szL l = if E = 0 then (S.size : Int) else -1 := by
    unfold szL
    rw [← hE]
    by_cases h : E = 0
    · rw [if_pos h, if_pos h]
      have : S.size = (lB l).length := by
        rw [hS]
        show (List.toArray _).size = _
        rw [List.size_toArray]
        unfold prnS
        rw [if_pos (by rw [← hE]; exact h), lB_prn]
      omega
    · rw [if_neg h, if_neg h]
  have HS := Lib.hid hsz
  clear hsz hE hS
  by_cases h : E = 0
  · subst h
    go_enter Try.func62, Try.ntmps62
    go_wp2_with ((go_at_call 27; (with_reducible refine hpr.mono ?_); rintro a w1 ⟨rfl, hk⟩))
    go_ret
    have h2 : szL l = (S.size : Int) := HS.out.trans (by simp)
    exact ⟨by rw [h2]; rfl, hk⟩
  · have h1 : (E != 0) = true := by simp [h]
    go_enter Try.func62, Try.ntmps62
    go_wp2_with ((go_at_call 27; (with_reducible refine hpr.mono ?_); rintro a w1 ⟨rfl, hk⟩))
    go_ret
    have h2 : szL l = -1 := HS.out.trans (if_neg h)
    exact ⟨by rw [h2]; rfl, hk⟩
def bigL (room : Nat) (l : List Ev) : Prop := szL l < 0 ∨ (room : Int) < szL l
theorem bigL_not {room : Nat} {l : List Ev} (hw : ∀ i, i < l.length → (l.getD i default).Wf) : ¬ bigL room l ↔ lOk l ∧ (lB l).length ≤ room := by
  unfold bigL szL
  by_cases h : prnE (fun i => l.getD i default) l.length = 0
  · rw [if_pos h]
    have := prn_lOk hw h
    constructor
    · intro q; exact ⟨this, by omega⟩
    · intro q; have := q.2; omega
  · rw [if_neg h]
    constructor
    · intro q; exact absurd (.inl (by decide)) q
    · intro q; exact absurd (lOk_prn q.1) h
theorem app_wf {l : List Ev} {e : Ev} (h : ∀ i, i < l.length → (l.getD i default).Wf) (he : e.Wf) : ∀ i, i < (l ++ [e]).length → ((l ++ [e]).getD i default).Wf := by
  intro i hi
  have hi2 : i < l.length + 1 := by simpa using hi
  by_cases h1 : i < l.length
  · have := h i h1
    rw [List.getD_eq_getElem?_getD] at this ⊢
    rw [List.getElem?_append_left h1]
    exact this
  · obtain rfl : i = l.length := by omega
    rw [List.getD_eq_getElem?_getD, List.getElem?_append_right (Nat.le_refl _), Nat.sub_self]
    exact he
theorem op_wf {room : Nat} {R : Rcd} (h : R.Inv room) : ∀ i, i < R.op.length → (R.op.getD i default).Wf := by
  intro i hi
  have h0 : R.op ≠ [] := by rintro q; rw [q] at hi; exact absurd hi (Nat.not_lt_zero _)
  exact lOk_wf (h.op h0).1 i hi
/-- How the document puts an event is how the recorder does. -/
theorem put_ref {room : Nat} {R : Rcd} {e : Ev} (h : R.Inv room) (hr : 20 ≤ room) (hw : e.Wf) (he : R.err e = 0) :
    (¬ bigL room (R.op ++ [e]) → R.put room e = { R with op := R.op ++ [e], last := e }) ∧ (bigL room (R.op ++ [e]) → R.put room e = { R.flush with op := [e], last := e }) := by
  obtain ⟨h1, h2, h3, h4⟩ := err_zero he
  have hp : R.put room e = { R.fl room e with op := (R.fl room e).op ++ [e], last := e } := if_neg (fun q => q he)
  have hnb := bigL_not (room := room) (app_wf (op_wf h) hw)
  rw [hp]
  by_cases h0 : R.op = []
  · have hfl : R.fl room e = R := by
      unfold Rcd.fl
      split
      · rfl
      · exact if_pos h0
    rw [hfl]
    refine ⟨fun _ => rfl, fun q => absurd (hnb.2 ?_) (fun x => x q)⟩
    rw [h0, List.nil_append]
    exact ⟨lOk_one hw h2, by have := (lB_one_len hw h2).2; omega⟩
  · obtain ⟨k1, k2, k3⟩ := h.op h0
    have hfi : R.fits room e = true ↔ lOk (R.op ++ [e]) ∧ (lB (R.op ++ [e])).length ≤ room := by
      unfold Rcd.fits
      rw [lOk_snoc h0, lB_snoc h0, k2, evErr_ok, List.length_append]
      simp only [Bool.and_eq_true, decide_eq_true_eq]
      constructor
      · rintro ⟨a, b⟩; exact ⟨⟨k1, ⟨h2, a⟩, hw⟩, b⟩
      · rintro ⟨⟨_, ⟨_, a⟩, _⟩, b⟩; exact ⟨a, b⟩
    constructor
    · intro q
      have hfl : R.fl room e = R := if_pos (hfi.2 (hnb.1 q))
      rw [hfl]
    · intro q
      have hfl : R.fl room e = R.flush := if_neg (fun x => hnb.2 (hfi.1 x) q)
      rw [hfl, flush_op]
      rfl
def MdB' (w : World) (m : Nat) : Prop := ∃ room fv ov e cl, w.heap[m]? = some (.cells (mdCells room fv ov e cl) 57 (0, 0))
section
variable {w w' : World} {m room : Nat} {R : Rcd} {U : Nat → Prop}
theorem Md.mono {V : Nat → Prop} (h : Md w m room R U) (hs : ∀ k, U k → V k) (hf : ∀ k, V k → k < w.heap.size) : Md w m room R V := by
  obtain ⟨fv, ov, fl, b, he⟩ := h.b
  exact ⟨⟨fv, ov, fl, b.mono hs, he⟩, hf⟩
theorem Md.um (h : Md w m room R U) : U m := by
  obtain ⟨fv, ov, fl, b, he⟩ := h.b
  exact b.um
/-- The end of Put: the open frame, the last event. -/
theorem Md.put_end {R1 : Rcd} {v : Value} {l : List Ev} {e : Ev} (h : Md w m room R1 U) (ho : w.ownsRow 0 25 6 v l.length (evCells l)) (hu : ∀ g, v.ownBlock = some g → U g) :
    MdB' (w.setCell ⟨m, 2, none⟩ v) m ∧ Md (((((((w.setCell ⟨m, 2, none⟩ v).setCell ⟨m, 3, none⟩ (.int .i64 e.k)).setCell ⟨m, 4, none⟩ (.int .u64 e.cy)).setCell ⟨m, 5, none⟩ (.int .u64 e.ct)).setCell ⟨m, 6, none⟩ (.int .u32 e.a)).setCell ⟨m, 7, none⟩ (.int .u32 e.b)).setCell ⟨m, 8, none⟩ (.int .u32 e.v)) m room { R1 with op := l, last := e } U ∧
    Only (fun k => k = m) w (((((((w.setCell ⟨m, 2, none⟩ v).setCell ⟨m, 3, none⟩ (.int .i64 e.k)).setCell ⟨m, 4, none⟩ (.int .u64 e.cy)).setCell ⟨m, 5, none⟩ (.int .u64 e.ct)).setCell ⟨m, 6, none⟩ (.int .u32 e.a)).setCell ⟨m, 7, none⟩ (.int .u32 e.b)).setCell ⟨m, 8, none⟩ (.int .u32 e.v)) := by
  obtain ⟨fv, ov, fl, b, he⟩ := h.b
  have b1 := b.setOp v l ho hu
  have b2 := b1.setLast e
  have hxx : ∀ i : Nat, (⟨m, i, none⟩ : Addr).block < w.heap.size → m = m := fun _ _ => rfl
  have o := (((((((Only.refl (fun k => k = m) w).setCell ⟨m, 2, none⟩ v (hxx 2)).setCell ⟨m, 3, none⟩ (.int .i64 e.k) (hxx 3)).setCell ⟨m, 4, none⟩ (.int .u64 e.cy) (hxx 4)).setCell ⟨m, 5, none⟩ (.int .u64 e.ct) (hxx 5)).setCell ⟨m, 6, none⟩ (.int .u32 e.a) (hxx 6)).setCell ⟨m, 7, none⟩ (.int .u32 e.b) (hxx 7)).setCell ⟨m, 8, none⟩ (.int .u32 e.v) (hxx 8)
  exact ⟨⟨_, _, _, _, _, b1.me⟩, ⟨⟨fv, v, fl, b2, he⟩, fun k hk => Nat.lt_of_lt_of_le (h.foot k hk) o.size⟩, o⟩
end
set_option maxHeartbeats 8000000 in
theorem mput_any {w : World} {m room : Nat} {R : Rcd} {U : Nat → Prop} (h : Md w m room R U) (hinv : R.Inv room) (hr : 20 ≤ room ∧ room ≤ 120) (hn : R.fr.length ≤ 4000) (e : Ev) (he : e.Wf) :
    Calls Try.prog 28 #[.pointer (some ⟨m, 0, none⟩), e.val] w fun a w' => a = .returned (.int .i64 (R.err e)) ∧ Md w' m room (R.put room e) (grow U w w') ∧ Only U w w' := by
  obtain ⟨o, ho⟩ : ∃ o, o = w.heap.size := ⟨_, rfl⟩
  have hal := (Below.refl w.heap.size w).alloc (Nat.le_refl _) (.cells #[.int .i64 e.k, .int .u64 e.cy, .int .u64 e.ct, .int .u32 e.a, .int .u32 e.b, .int .u32 e.v] 25)
  have he1 := heap_alloc_new w (.cells #[.int .i64 e.k, .int .u64 e.cy, .int .u64 e.ct, .int .u32 e.a, .int .u32 e.b, .int .u32 e.v] 25)
  have h1 := h.below hal
  have hg1 : ∀ {W : World}, Below w.heap.size w W → ∀ {R2 : Rcd}, Md W m room R2 U → Md W m room R2 (grow U w W) := by
    intro W hB R2 hr2
    exact hr2.mono (fun k hk => .inl hk) (grow_lt h.foot hB.size)
  have hrj : ∀ {W : World}, Below w.heap.size w W → R.err e ≠ 0 → Md W m room R U → Md W m room (R.put room e) (grow U w W) ∧ Only U w W := by
    intro W hB h0 hr2
    have hp : R.put room e = R := if_pos h0
    rw [hp]
    exact ⟨hg1 hB hr2, Only.of_below hB U⟩
  have HG := Lib.hid (And.intro h (And.intro (@hg1) (@hrj)))
  clear hg1 hrj
  rw [← ho] at he1
  unfold Ev.val
  go_enter Try.func28, Try.ntmps28
  go_upto_region 1 with fail
  rw [← ho]
  have Ho := Lib.hid ho
  clear ho
  generalize w.alloc (.cells #[.int .i64 e.k, .int .u64 e.cy, .int .u64 e.ct, .int .u32 e.a, .int .u32 e.b, .int .u32 e.v] 25) = w1 at *
  clear h
  obtain ⟨fv, ov, fl, b, hfe⟩ := id h1.b
  have y9 := b.cells 9
  simp only [mdCells, List.getElem?_toArray, List.getElem?_cons_succ, List.getElem?_cons_zero] at y9
  obtain ⟨c0, c1, c2, c3, c4, c5⟩ := ev_cells (e := e) he1
  cases hcl : R.cl
  · rw [hcl] at y9
    have hck := rcheck_any e w1
    by_cases hch : e.chk = 0
    · have hz : (e.chk != 0) = false := by simp [hch]
      rw [hch] at hck
      go_wp2_with (first | (go_at_call 59; (refine hck.mono ?_); rintro a2 w2 ⟨rfl, hk2⟩; have he2 := (hk2.block o (blk_lt he1)).trans he1; have h2 := h1.below hk2; have hB2 := hal.trans (hk2.mono hal.size); clear hck hk2 y9 c0 c1 c2 c3 c4 c5 he1 b h1 hal))
      obtain ⟨fv, ov, fl, b, hfe⟩ := id h2.b
      have y4 := b.cells 4
      have y5 := b.cells 5
      simp only [mdCells, List.getElem?_toArray, List.getElem?_cons_succ, List.getElem?_cons_zero] at y4 y5
      obtain ⟨c0, c1, c2, c3, c4, c5⟩ := ev_cells (e := e) he2
      by_cases hst1 : (e.ct : Int) < R.last.ct
      · have hE : R.err e = 5 := by unfold Rcd.err; rw [hcl, if_neg (by decide), if_neg (fun q => q hch), if_pos (by omega)]
        have HE := Lib.hid (And.intro hE (fun n => HG.out.2.2 (hB2.trans ((kept_drewN w2 n).mono hB2.size)) (by rw [hE]; decide) (h2.below (kept_drewN w2 n))))
        clear hE
        go_quiet (fail)
        go_wp2_with fail
        go_ret
        exact ⟨by rw [HE.out.1]; rfl, HE.out.2 _⟩
      · by_cases hst2 : (e.cy : Int) < R.last.cy
        · have hE : R.err e = 5 := by unfold Rcd.err; rw [hcl, if_neg (by decide), if_neg (fun q => q hch), if_pos (by omega)]
          have HE := Lib.hid (And.intro hE (fun n => HG.out.2.2 (hB2.trans ((kept_drewN w2 n).mono hB2.size)) (by rw [hE]; decide) (h2.below (kept_drewN w2 n))))
          clear hE
          go_quiet (fail)
          go_wp2_with fail
          go_ret
          exact ⟨by rw [HE.out.1]; rfl, HE.out.2 _⟩
        · have hE : R.err e = 0 := by unfold Rcd.err; rw [hcl, if_neg (by decide), if_neg (fun q => q hch), if_neg (by omega)]
          obtain ⟨hpn, hpb⟩ := put_ref hinv hr.1 he hE
          have HE := Lib.hid (And.intro hE (And.intro hpn hpb))
          go_quiet (fail)
          clear hE hpn hpb y4 y5 c0 c1 c2 c3 c4 c5 hcl hch hst1 hst2 hz b hfe
          have h3 := h2.below (kept_drewN w2 nq)
          have hB3 := hB2.trans ((kept_drewN w2 nq).mono hB2.size)
          have he3 := ((kept_drewN w2 nq).block o (blk_lt he2)).trans he2
          generalize w2.drewN nq = w3 at *
          clear h2 hB2 he2 w2
          go_upto_region 7 with fail
          obtain ⟨fv, ov, fl, b, hfe⟩ := id h3.b
          obtain ⟨oa, oc, rfl⟩ := owns_form b.oo
          obtain ⟨K, hK⟩ : ∃ K, K = R.op.length := ⟨_, rfl⟩
          have hKb : K ≤ 120 := by
            rw [hK]
            have := op_le hinv
            by_cases q : R.op = []
            · rw [q]; exact Nat.zero_le _
            · have := (hinv.op q).2.2; omega
          have y2 := b.cells 2
          have y0 := b.cells 0
          have hoo := b.oo
          rw [← hK] at y2 hoo
          simp only [mdCells, List.getElem?_toArray, List.getElem?_cons_succ, List.getElem?_cons_zero] at y2 y0
          have hms3 : m < w3.heap.size := blk_lt b.me
          have hos3 : o < w3.heap.size := blk_lt he3
          obtain ⟨c0, c1, c2, c3, c4, c5⟩ := ev_cells (e := e) he3
          have HK := Lib.hid hK
          clear hK b hfe
          have hln : (evCells R.op).length = K * 6 := by rw [HK.out]; exact evCells_length _
          obtain ⟨i1, hi1, hy0, hy1, hy2⟩ := ev_info
          have ul : Try.prog.underlying 40 = some (.slice 25) := by kernel_rfl
          have hk1 := ((Below.refl w3.heap.size w3).drew).alloc (Nat.le_refl _) (.cells #[] 25)
          have hlitA := World.ownsRow_lit (e := 25) (base := w3.heap.size) (size := 6) w3.drew #[] 0 (Nat.le_refl _) (by decide) rfl
          have hsrA := src_own (own_below hoo hk1) hln
          have hal0 := (Below.refl w3.heap.size w3).alloc (Nat.le_refl _) (.cells #[] 25)
          have y2a := (hal0.cell (p := ⟨m, 2, none⟩) hms3).trans y2
          have c0a := (hal0.cell (p := ⟨o, 0, none⟩) hos3).trans c0
          have c1a := (hal0.cell (p := ⟨o, 1, none⟩) hos3).trans c1
          have c2a := (hal0.cell (p := ⟨o, 2, none⟩) hos3).trans c2
          have c3a := (hal0.cell (p := ⟨o, 3, none⟩) hos3).trans c3
          have c4a := (hal0.cell (p := ⟨o, 4, none⟩) hos3).trans c4
          have c5a := (hal0.cell (p := ⟨o, 5, none⟩) hos3).trans c5
          have hkB := (hal0.trans (((Below.refl (w3.alloc (.cells #[] 25)).heap.size (w3.alloc (.cells #[] 25))).alloc (Nat.le_refl _) (.cells #[.int .i64 e.k, .int .u64 e.cy, .int .u64 e.ct, .int .u32 e.a, .int .u32 e.b, .int .u32 e.v] 25)).mono hal0.size)).drew
          have hlitB := own_below (w' := ((w3.alloc (.cells #[] 25)).alloc (.cells #[.int .i64 e.k, .int .u64 e.cy, .int .u64 e.ct, .int .u32 e.a, .int .u32 e.b, .int .u32 e.v] 25)).drew) (World.ownsRow_lit (e := 25) (base := w3.heap.size) (size := 6) w3 #[] 0 (Nat.le_refl _) (by decide) rfl) (((Below.refl (w3.alloc (.cells #[] 25)).heap.size (w3.alloc (.cells #[] 25))).alloc (Nat.le_refl _) (.cells #[.int .i64 e.k, .int .u64 e.cy, .int .u64 e.ct, .int .u32 e.a, .int .u32 e.b, .int .u32 e.v] 25)).drew)
          have hsrB := src_own (own_below hoo hkB) hln
          have hlB : ((w3.alloc (.cells #[] 25)).alloc (.cells #[.int .i64 e.k, .int .u64 e.cy, .int .u64 e.ct, .int .u32 e.a, .int .u32 e.b, .int .u32 e.v] 25)).drew.heap[w3.heap.size + 1]? = some (.cells e.cells.toArray 25 (0, 0)) := by
            have := heap_alloc_new (w3.alloc (.cells #[] 25)) (.cells #[.int .i64 e.k, .int .u64 e.cy, .int .u64 e.ct, .int .u32 e.a, .int .u32 e.b, .int .u32 e.v] 25)
            rw [World.size_alloc] at this
            exact this
          have halE := (Below.refl w3.heap.size w3).alloc (Nat.le_refl _) (.cells #[.int .i64 e.k, .int .u64 e.cy, .int .u64 e.ct, .int .u32 e.a, .int .u32 e.b, .int .u32 e.v] 25)
          have hkC := (halE.trans (((Below.refl (w3.alloc (.cells #[.int .i64 e.k, .int .u64 e.cy, .int .u64 e.ct, .int .u32 e.a, .int .u32 e.b, .int .u32 e.v] 25)).heap.size (w3.alloc (.cells #[.int .i64 e.k, .int .u64 e.cy, .int .u64 e.ct, .int .u32 e.a, .int .u32 e.b, .int .u32 e.v] 25))).alloc (Nat.le_refl _) (.cells #[] 25)).mono halE.size)).drew
          have hlitC0 := World.ownsRow_lit (e := 25) (base := w3.heap.size) (size := 6) (w3.alloc (.cells #[.int .i64 e.k, .int .u64 e.cy, .int .u64 e.ct, .int .u32 e.a, .int .u32 e.b, .int .u32 e.v] 25)) #[] 0 (by simp) (by decide) rfl
          rw [World.size_alloc] at hlitC0
          have hlitC : (((w3.alloc (.cells #[.int .i64 e.k, .int .u64 e.cy, .int .u64 e.ct, .int .u32 e.a, .int .u32 e.b, .int .u32 e.v] 25)).alloc (.cells #[] 25)).drew).ownsRow w3.heap.size 25 6 (.slice (some ⟨w3.heap.size + 1, 0, none⟩) 0 0) 0 [] := hlitC0
          clear hlitC0
          have hsrC := src_own (own_below hoo hkC) hln
          have hlC : (((w3.alloc (.cells #[.int .i64 e.k, .int .u64 e.cy, .int .u64 e.ct, .int .u32 e.a, .int .u32 e.b, .int .u32 e.v] 25)).alloc (.cells #[] 25)).drew).heap[w3.heap.size]? = some (.cells e.cells.toArray 25 (0, 0)) := blk_alloc (heap_alloc_new w3 (.cells #[.int .i64 e.k, .int .u64 e.cy, .int .u64 e.ct, .int .u32 e.a, .int .u32 e.b, .int .u32 e.v] 25)) _
          have y2c := (halE.cell (p := ⟨m, 2, none⟩) hms3).trans y2
          have y2b := (hkB.cell (p := ⟨m, 2, none⟩) hms3).trans y2
          have y2d := (hkC.cell (p := ⟨m, 2, none⟩) hms3).trans y2
          go_cut [5] from 32 to 40 (fun s5 wx => ∃ ao6 cp6, s5 = .slice ao6 (K + 1) cp6 ∧ wx.ownsRow w3.heap.size 25 6 (.slice ao6 (K + 1) cp6) (K + 1) (evCells R.op ++ evCells [e]) ∧ Below w3.heap.size w3 wx)
          case first =>
            go_region_law (first | (refine step_append rfl (.tmp 32) (.tmp 36) 40 rfl w3.heap.size (by first | (simp; done) | (simp; omega)) 25 i1 _ 6 40 ul hi1 hy0 hy1 hy2 rfl (by decide) (.slice (some ⟨w3.heap.size, 0, none⟩) 0 0) 0 [] rfl hlitA _ K (evCells R.op) rfl hln hsrA (evCells_one _) (by unfold maxLen; omega) (by omega) ?_; intro ao5 cp5 w14 hown5 hg5 hat5; have hk2 := below_append hk1 hlitA hg5 (by first | (simp; done) | (simp; omega)); have y0 := (hk2.cell (p := ⟨o, 0, none⟩) hos3).trans c0; have y1 := (hk2.cell (p := ⟨o, 1, none⟩) hos3).trans c1; have y2 := (hk2.cell (p := ⟨o, 2, none⟩) hos3).trans c2; have y3 := (hk2.cell (p := ⟨o, 3, none⟩) hos3).trans c3; have y4 := (hk2.cell (p := ⟨o, 4, none⟩) hos3).trans c4; have y5 := (hk2.cell (p := ⟨o, 5, none⟩) hos3).trans c5; simp only [Nat.zero_add, List.nil_append] at hown5; have hk2s := hk2.size; have hal15 := (Below.refl w14.heap.size w14).alloc (Nat.le_refl _) (.cells #[.int .i64 e.k, .int .u64 e.cy, .int .u64 e.ct, .int .u32 e.a, .int .u32 e.b, .int .u32 e.v] 25); have hown5b := own_below hown5 hal15; have hsr2 := src_ev w14 e) | (refine step_append rfl (.tmp 32) (.tmp 36) 40 rfl w3.heap.size (by first | (simp; done) | (simp; omega)) 25 i1 _ 6 40 ul hi1 hy0 hy1 hy2 rfl (by decide) (.slice (some ⟨w3.heap.size, 0, none⟩) 0 0) 0 [] rfl hlitB _ K (evCells R.op) rfl hln hsrB (evCells_one _) (by unfold maxLen; omega) (by omega) ?_; intro ao5 cp5 w14 hown5 hg5 hat5; have hk2 := below_append hkB hlitB hg5 (by first | (simp; done) | (simp; omega)); have y0 := (hk2.cell (p := ⟨o, 0, none⟩) hos3).trans c0; have y1 := (hk2.cell (p := ⟨o, 1, none⟩) hos3).trans c1; have y2 := (hk2.cell (p := ⟨o, 2, none⟩) hos3).trans c2; have y3 := (hk2.cell (p := ⟨o, 3, none⟩) hos3).trans c3; have y4 := (hk2.cell (p := ⟨o, 4, none⟩) hos3).trans c4; have y5 := (hk2.cell (p := ⟨o, 5, none⟩) hos3).trans c5; simp only [Nat.zero_add, List.nil_append] at hown5; have hk2s := hk2.size; have hsr2B : Src w14 (.slice (some ⟨w3.heap.size + 1, 0, none⟩) 1 1) 1 (evCells [e]) := src_blkX ((hg5.block _ (by first | (simp; done) | (simp; omega)) (fun q => absurd (Option.some.inj q) (Nat.succ_ne_self _))).trans hlB)) | (refine step_append rfl (.tmp 32) (.tmp 36) 40 rfl w3.heap.size (by first | (simp; done) | (simp; omega)) 25 i1 _ 6 40 ul hi1 hy0 hy1 hy2 rfl (by decide) (.slice (some ⟨w3.heap.size + 1, 0, none⟩) 0 0) 0 [] rfl hlitC _ K (evCells R.op) rfl hln hsrC (evCells_one _) (by unfold maxLen; omega) (by omega) ?_; intro ao5 cp5 w14 hown5 hg5 hat5; have hk2 := below_append hkC hlitC hg5 (by first | (simp; done) | (simp; omega)); have y0 := (hk2.cell (p := ⟨o, 0, none⟩) hos3).trans c0; have y1 := (hk2.cell (p := ⟨o, 1, none⟩) hos3).trans c1; have y2 := (hk2.cell (p := ⟨o, 2, none⟩) hos3).trans c2; have y3 := (hk2.cell (p := ⟨o, 3, none⟩) hos3).trans c3; have y4 := (hk2.cell (p := ⟨o, 4, none⟩) hos3).trans c4; have y5 := (hk2.cell (p := ⟨o, 5, none⟩) hos3).trans c5; simp only [Nat.zero_add, List.nil_append] at hown5; have hk2s := hk2.size; have hsr2C : Src w14 (.slice (some ⟨w3.heap.size, 0, none⟩) 1 1) 1 (evCells [e]) := src_blkX ((hg5.block _ (by first | (simp; done) | (simp; omega)) (fun q => absurd (Option.some.inj q).symm (Nat.succ_ne_self _))).trans hlC)) | (refine step_append rfl (.tmp 37) (.tmp 39) 40 rfl w3.heap.size (by simp; omega) 25 i1 _ 6 40 ul hi1 hy0 hy1 hy2 rfl (by decide) (.slice ao5 K cp5) K (evCells R.op) rfl hown5b _ 1 (evCells [e]) rfl rfl hsr2 (evCells_one _) (by unfold maxLen; omega) (by omega) ?_; intro ao6 cp6 w15 hown6 hg6 hat6; have hk3 := below_append (hk2.trans (hal15.mono hk2s)) hown5b hg6 (by first | omega | (simp; omega))) | (refine step_append rfl (.tmp 37) (.tmp 39) 40 rfl w3.heap.size hk2s 25 i1 _ 6 40 ul hi1 hy0 hy1 hy2 rfl (by decide) (.slice ao5 K cp5) K (evCells R.op) rfl hown5 _ 1 (evCells [e]) rfl rfl hsr2B (evCells_one _) (by unfold maxLen; omega) (by omega) ?_; intro ao6 cp6 w15 hown6 hg6 hat6; have hk3 := below_append hk2 hown5 hg6 (by first | omega | (simp; omega))) | (refine step_append rfl (.tmp 37) (.tmp 39) 40 rfl w3.heap.size hk2s 25 i1 _ 6 40 ul hi1 hy0 hy1 hy2 rfl (by decide) (.slice ao5 K cp5) K (evCells R.op) rfl hown5 _ 1 (evCells [e]) rfl rfl hsr2C (evCells_one _) (by unfold maxLen; omega) (by omega) ?_; intro ao6 cp6 w15 hown6 hg6 hat6; have hk3 := below_append hk2 hown5 hg6 (by first | omega | (simp; omega))))
            all_goals (go_wp2_with fail; go_meet; exact ⟨ao6, cp6, rfl, hown6, hk3⟩)
          case rest =>
            obtain ⟨ao6, cp6, rfl, hown6, hk3⟩ := hcut
            have hB7 := hB3.trans (hk3.mono hB3.size)
            have h7 := h3.below hk3
            have he7 := (hk3.block o hos3).trans he3
            have hle1 : K + 1 = (R.op ++ [e]).length := by rw [HK.out]; simp
            have e1 : evCells R.op ++ evCells [e] = evCells (R.op ++ [e]) := by simp [evCells]
            have hown7 : wc.ownsRow 0 25 6 (.slice ao6 (K + 1) cp6) (R.op ++ [e]).length (evCells (R.op ++ [e])) := by
              rw [← e1, ← hle1]; exact World.ownsRow.mono hown6 (Nat.zero_le _)
            have hsl6 : SlArgN wc ao6 (K + 1) cp6 6 (fun i j => ((R.op ++ [e]).getD i default).f j) := by
              rw [e1, hle1] at hown6
              rw [hle1]
              exact slArgN_own hown6
            have hu7 : ∀ g, (Value.slice ao6 (K + 1) cp6).ownBlock = some g → w3.heap.size ≤ g ∧ g < wc.heap.size := fun g q => hown6.lt g q
            have hsz := rsize_any wc ao6 (K + 1) cp6 (R.op ++ [e]) hle1 hsl6 (app_wf (op_wf hinv) he) (by rw [← hle1]; omega)
            obtain ⟨Z, hZ⟩ : ∃ Z, Z = szL (R.op ++ [e]) := ⟨_, rfl⟩
            rw [← hZ] at hsz
            have hUo : ¬ U o := fun q => by have := HG.out.1.foot o q; have := Ho.out; omega
            have hom : o ≠ m := fun q => hUo (q ▸ HG.out.1.um)
            have hs3 := hB3.size
            have HZ := Lib.hid hZ
            clear e1 hle1 hsl6 hown6 hZ c0 c1 c2 c3 c4 c5 c0a c1a c2a c3a c4a c5a y2 y2a y2b y2c y2d y0 hlitA hlitB hlitC hsrA hsrB hsrC hlB hlC hkB hkC halE hal0 hk1 hoo he3 h3 hB3
            go_upto_region 9 with ((go_at_call 62; (with_reducible refine hsz.mono ?_); rintro a w8 ⟨rfl, hk8⟩))
            have h8 := h7.below hk8
            have he8 := (hk8.block o (blk_lt he7)).trans he7
            have hown8 := own_below hown7 hk8
            have hB8 := hB7.trans (hk8.mono hB7.size)
            have hs8 := hk8.size
            have hs7 := hk3.size
            clear hsz h7 he7 hown7 hk8 hB7 hk3
            obtain ⟨fv8, ov8, fl8, b8, _⟩ := id h8.b
            have y0 := b8.cells 0
            simp only [mdCells, List.getElem?_toArray, List.getElem?_cons_succ, List.getElem?_cons_zero] at y0
            clear b8
            by_cases n1 : Z < 0
            · have n1d : decide (Z < 0) = true := decide_eq_true n1
              have hbig : bigL room (R.op ++ [e]) := .inl (by rw [← HZ.out]; exact n1)
              have hfl := mflush_any h8 (by omega)
              go_upto_region 11 with ((go_at_call 29; (with_reducible refine hfl.mono ?_); rintro a w9 ⟨rfl, h9, on9⟩))
              have he9 := on9.keeps he8 hUo
              obtain ⟨c0, c1, c2, c3, c4, c5⟩ := ev_cells (e := e) he9
              have hal9 := (Below.refl w9.heap.size w9).alloc (Nat.le_refl _) (.cells #[.int .i64 e.k, .int .u64 e.cy, .int .u64 e.ct, .int .u32 e.a, .int .u32 e.b, .int .u32 e.v] 25)
              have hW0 := h9.below hal9
              have onW := ((Only.of_below hB8 U).trans on9 fun _ _ q => q).alloc (.cells #[.int .i64 e.k, .int .u64 e.cy, .int .u64 e.ct, .int .u32 e.a, .int .u32 e.b, .int .u32 e.v] 25)
              have s89 := on9.size
              have hW : Md (w9.alloc (.cells #[.int .i64 e.k, .int .u64 e.cy, .int .u64 e.ct, .int .u32 e.a, .int .u32 e.b, .int .u32 e.v] 25)) m room R.flush (grow U w (w9.alloc (.cells #[.int .i64 e.k, .int .u64 e.cy, .int .u64 e.ct, .int .u32 e.a, .int .u32 e.b, .int .u32 e.v] 25))) := hW0.mono (fun k q => by
                rcases q with q | q
                · exact .inl q
                · exact .inr ⟨by have := hB8.size; omega, by have := q.2; simp; omega⟩) (grow_lt HG.out.1.foot onW.size)
              have heW := (hal9.block o (blk_lt he9)).trans he9
              have ho6 : (w9.alloc (.cells #[.int .i64 e.k, .int .u64 e.cy, .int .u64 e.ct, .int .u32 e.a, .int .u32 e.b, .int .u32 e.v] 25)).ownsRow 0 25 6 (.slice (some ⟨w9.heap.size, 0, none⟩) 1 1) [e].length (evCells [e]) := by
                have := World.ownsRow_lit (e := 25) (base := 0) (size := 6) w9 #[.int .i64 e.k, .int .u64 e.cy, .int .u64 e.ct, .int .u32 e.a, .int .u32 e.b, .int .u32 e.v] 1 (Nat.zero_le _) (by decide) rfl
                exact this
              have hu6 : ∀ g, (Value.slice (some ⟨w9.heap.size, 0, none⟩) 1 1).ownBlock = some g → grow U w (w9.alloc (.cells #[.int .i64 e.k, .int .u64 e.cy, .int .u64 e.ct, .int .u32 e.a, .int .u32 e.b, .int .u32 e.v] 25)) g := fun g q => by
                have : w9.heap.size = g := Option.some.inj q
                exact .inr ⟨by have := hB8.size; omega, by simp; omega⟩
              have hres := HE.out.2.2 hbig
              clear hal9 hW0 h9 on9 he9 h8 hown8 hfl hbig
              go_upto_region 12 with fail
              obtain ⟨⟨_, _, _, _, _, me11⟩, hmd, on17⟩ := hW.put_end (e := e) ho6 hu6
              obtain ⟨fvW, ovW, flW, bW, _⟩ := id hW.b
              have y2 := bW.cells 2
              have z2 := bW.frozen 2
              simp only [mdCells, List.getElem?_toArray, List.getElem?_cons_succ, List.getElem?_cons_zero] at y2
              have he11 := (Below.heap_setCell (w9.alloc (.cells #[.int .i64 e.k, .int .u64 e.cy, .int .u64 e.ct, .int .u32 e.a, .int .u32 e.b, .int .u32 e.v] 25)) ⟨m, 2, none⟩ (.slice (some ⟨w9.heap.size, 0, none⟩) 1 1) o (fun q => hom q)).trans heW
              have onF := onW.trans on17 fun k hk (q : k = m) => q ▸ HG.out.1.um
              have HF := Lib.hid (And.intro hmd (And.intro onF hres))
              clear hmd onF hres bW hW onW on17
              go_upto_region 13 with fail
              obtain ⟨c0, c1, c2, c3, c4, c5⟩ := ev_cells (e := e) he11
              have y3 := cell_blk me11 3
              have y4 := cell_blk me11 4
              have y5 := cell_blk me11 5
              have y6 := cell_blk me11 6
              have y7 := cell_blk me11 7
              have y8 := cell_blk me11 8
              have z3 := frozen_blk me11 3
              have z4 := frozen_blk me11 4
              have z5 := frozen_blk me11 5
              have z6 := frozen_blk me11 6
              have z7 := frozen_blk me11 7
              have z8 := frozen_blk me11 8
              simp only [mdCells, List.getElem?_toArray, List.getElem?_cons_succ, List.getElem?_cons_zero] at y3 y4 y5 y6 y7 y8
              go_wp2_with fail
              go_ret
              obtain ⟨hmd, onF, hres⟩ := HF.out
              refine ⟨by rw [HE.out.1]; rfl, ?_, onF⟩
              rw [hres]
              exact hmd.mono (fun k q => by
                rcases q with q | q
                · exact .inl q
                · have q2 := q.2
                  try simp at q2
                  exact .inr ⟨q.1, by simp [World.setCell]; omega⟩) (grow_lt HG.out.1.foot onF.size)
            · have n1d : decide (Z < 0) = false := decide_eq_false n1
              by_cases n2 : (room : Int) < Z
              · have n2d : decide ((room : Int) < Z) = true := decide_eq_true n2
                have hbig : bigL room (R.op ++ [e]) := .inr (by rw [← HZ.out]; exact n2)
                have hfl := mflush_any h8 (by omega)
                go_upto_region 11 with ((go_at_call 29; (with_reducible refine hfl.mono ?_); rintro a w9 ⟨rfl, h9, on9⟩))
                have he9 := on9.keeps he8 hUo
                obtain ⟨c0, c1, c2, c3, c4, c5⟩ := ev_cells (e := e) he9
                have hal9 := (Below.refl w9.heap.size w9).alloc (Nat.le_refl _) (.cells #[.int .i64 e.k, .int .u64 e.cy, .int .u64 e.ct, .int .u32 e.a, .int .u32 e.b, .int .u32 e.v] 25)
                have hW0 := h9.below hal9
                have onW := ((Only.of_below hB8 U).trans on9 fun _ _ q => q).alloc (.cells #[.int .i64 e.k, .int .u64 e.cy, .int .u64 e.ct, .int .u32 e.a, .int .u32 e.b, .int .u32 e.v] 25)
                have s89 := on9.size
                have hW : Md (w9.alloc (.cells #[.int .i64 e.k, .int .u64 e.cy, .int .u64 e.ct, .int .u32 e.a, .int .u32 e.b, .int .u32 e.v] 25)) m room R.flush (grow U w (w9.alloc (.cells #[.int .i64 e.k, .int .u64 e.cy, .int .u64 e.ct, .int .u32 e.a, .int .u32 e.b, .int .u32 e.v] 25))) := hW0.mono (fun k q => by
                  rcases q with q | q
                  · exact .inl q
                  · exact .inr ⟨by have := hB8.size; omega, by have := q.2; simp; omega⟩) (grow_lt HG.out.1.foot onW.size)
                have heW := (hal9.block o (blk_lt he9)).trans he9
                have ho6 : (w9.alloc (.cells #[.int .i64 e.k, .int .u64 e.cy, .int .u64 e.ct, .int .u32 e.a, .int .u32 e.b, .int .u32 e.v] 25)).ownsRow 0 25 6 (.slice (some ⟨w9.heap.size, 0, none⟩) 1 1) [e].length (evCells [e]) := by
                  have := World.ownsRow_lit (e := 25) (base := 0) (size := 6) w9 #[.int .i64 e.k, .int .u64 e.cy, .int .u64 e.ct, .int .u32 e.a, .int .u32 e.b, .int .u32 e.v] 1 (Nat.zero_le _) (by decide) rfl
                  exact this
                have hu6 : ∀ g, (Value.slice (some ⟨w9.heap.size, 0, none⟩) 1 1).ownBlock = some g → grow U w (w9.alloc (.cells #[.int .i64 e.k, .int .u64 e.cy, .int .u64 e.ct, .int .u32 e.a, .int .u32 e.b, .int .u32 e.v] 25)) g := fun g q => by
                  have : w9.heap.size = g := Option.some.inj q
                  exact .inr ⟨by have := hB8.size; omega, by simp; omega⟩
                have hres := HE.out.2.2 hbig
                clear hal9 hW0 h9 on9 he9 h8 hown8 hfl hbig
                go_upto_region 12 with fail
                obtain ⟨⟨_, _, _, _, _, me11⟩, hmd, on17⟩ := hW.put_end (e := e) ho6 hu6
                obtain ⟨fvW, ovW, flW, bW, _⟩ := id hW.b
                have y2 := bW.cells 2
                have z2 := bW.frozen 2
                simp only [mdCells, List.getElem?_toArray, List.getElem?_cons_succ, List.getElem?_cons_zero] at y2
                have he11 := (Below.heap_setCell (w9.alloc (.cells #[.int .i64 e.k, .int .u64 e.cy, .int .u64 e.ct, .int .u32 e.a, .int .u32 e.b, .int .u32 e.v] 25)) ⟨m, 2, none⟩ (.slice (some ⟨w9.heap.size, 0, none⟩) 1 1) o (fun q => hom q)).trans heW
                have onF := onW.trans on17 fun k hk (q : k = m) => q ▸ HG.out.1.um
                have HF := Lib.hid (And.intro hmd (And.intro onF hres))
                clear hmd onF hres bW hW onW on17
                go_upto_region 13 with fail
                obtain ⟨c0, c1, c2, c3, c4, c5⟩ := ev_cells (e := e) he11
                have y3 := cell_blk me11 3
                have y4 := cell_blk me11 4
                have y5 := cell_blk me11 5
                have y6 := cell_blk me11 6
                have y7 := cell_blk me11 7
                have y8 := cell_blk me11 8
                have z3 := frozen_blk me11 3
                have z4 := frozen_blk me11 4
                have z5 := frozen_blk me11 5
                have z6 := frozen_blk me11 6
                have z7 := frozen_blk me11 7
                have z8 := frozen_blk me11 8
                simp only [mdCells, List.getElem?_toArray, List.getElem?_cons_succ, List.getElem?_cons_zero] at y3 y4 y5 y6 y7 y8
                go_wp2_with fail
                go_ret
                obtain ⟨hmd, onF, hres⟩ := HF.out
                refine ⟨by rw [HE.out.1]; rfl, ?_, onF⟩
                rw [hres]
                exact hmd.mono (fun k q => by
                  rcases q with q | q
                  · exact .inl q
                  · have q2 := q.2
                    try simp at q2
                    exact .inr ⟨q.1, by simp [World.setCell]; omega⟩) (grow_lt HG.out.1.foot onF.size)
              · have n2d : decide ((room : Int) < Z) = false := decide_eq_false n2
                have hnb : ¬ bigL room (R.op ++ [e]) := by
                  rintro (q | q)
                  · exact n1 (by rw [HZ.out]; exact q)
                  · exact n2 (by rw [HZ.out]; exact q)
                have hres := HE.out.2.1 hnb
                have hW : Md w8 m room R (grow U w w8) := h8.mono (fun k q => .inl q) (grow_lt HG.out.1.foot hB8.size)
                have onW := Only.of_below hB8 U
                have heW := he8
                have ho6 := hown8
                have hu6 : ∀ g, (Value.slice ao6 (K + 1) cp6).ownBlock = some g → grow U w w8 g := fun g q => .inr ⟨by have := hu7 g q; omega, by have := hu7 g q; omega⟩
                clear h8 hown8 hnb
                go_upto_region 12 with fail
                obtain ⟨⟨_, _, _, _, _, me11⟩, hmd, on17⟩ := hW.put_end (e := e) ho6 hu6
                obtain ⟨fvW, ovW, flW, bW, _⟩ := id hW.b
                have y2 := bW.cells 2
                have z2 := bW.frozen 2
                simp only [mdCells, List.getElem?_toArray, List.getElem?_cons_succ, List.getElem?_cons_zero] at y2
                have he11 := (Below.heap_setCell w8 ⟨m, 2, none⟩ (.slice ao6 (K + 1) cp6) o (fun q => hom q)).trans heW
                have onF := onW.trans on17 fun k hk (q : k = m) => q ▸ HG.out.1.um
                have HF := Lib.hid (And.intro hmd (And.intro onF hres))
                clear hmd onF hres bW hW onW on17
                go_upto_region 13 with fail
                obtain ⟨c0, c1, c2, c3, c4, c5⟩ := ev_cells (e := e) he11
                have y3 := cell_blk me11 3
                have y4 := cell_blk me11 4
                have y5 := cell_blk me11 5
                have y6 := cell_blk me11 6
                have y7 := cell_blk me11 7
                have y8 := cell_blk me11 8
                have z3 := frozen_blk me11 3
                have z4 := frozen_blk me11 4
                have z5 := frozen_blk me11 5
                have z6 := frozen_blk me11 6
                have z7 := frozen_blk me11 7
                have z8 := frozen_blk me11 8
                simp only [mdCells, List.getElem?_toArray, List.getElem?_cons_succ, List.getElem?_cons_zero] at y3 y4 y5 y6 y7 y8
                go_wp2_with fail
                go_ret
                obtain ⟨hmd, onF, hres⟩ := HF.out
                refine ⟨by rw [HE.out.1]; rfl, ?_, onF⟩
                rw [hres]
                exact hmd.mono (fun k q => by
                  rcases q with q | q
                  · exact .inl q
                  · have q2 := q.2
                    try simp at q2
                    exact .inr ⟨q.1, by simp [World.setCell]; omega⟩) (grow_lt HG.out.1.foot onF.size)
    · have hz : (e.chk != 0) = true := by simp [hch]
      have hE : R.err e = 3 := by unfold Rcd.err; rw [hcl, if_neg (by decide), if_pos hch]
      go_wp2_with (first | (go_at_call 59; (refine hck.mono ?_); rintro a2 w2 ⟨rfl, hk2⟩; have h2 := h1.below hk2; have hB2 := hal.trans (hk2.mono hal.size); clear hck hk2 y9 c0 c1 c2 c3 c4 c5 he1 b h1 hal))
      have HE := Lib.hid (And.intro hE (HG.out.2.2 hB2 (by rw [hE]; decide) h2))
      clear hE
      go_ret
      exact ⟨by rw [HE.out.1]; rfl, HE.out.2⟩
  · rw [hcl] at y9
    have hE : R.err e = 2 := if_pos hcl
    have HE := Lib.hid (And.intro hE (HG.out.2.2 hal (by rw [hE]; decide) h1))
    clear hE
    go_wp2_with fail
    go_ret
    exact ⟨by rw [HE.out.1]; rfl, HE.out.2⟩
end Go.Proofs.Ytbfipgeoecbpaaa
