/- The walk of the statement of layer 23: RecPuts. -/
import Derived.Test.YtbfipgeoecbpaaaRcY
import Derived.Test.YtbfipgeoecbpaaaRcD
namespace Go.Proofs.Ytbfipgeoecbpaaa
open Go.RowKit
set_option linter.unusedVariables false
set_option linter.unusedSimpArgs false
set_option maxRecDepth 20000
/-- The recorder and the document's, apart, and apart from the blocks of P. -/
structure PtSt (w wr : World) (x rx m room : Nat) (R T : Rcd) (P : Nat → Prop) : Prop where
  g : ∃ O U, GRec wr x rx room R O ∧ Md wr m room T U ∧ (∀ k, O k → ¬ U k) ∧ (∀ k, O k → w.heap.size ≤ k ∧ ¬ P k) ∧ ∀ k, U k → w.heap.size ≤ k ∧ ¬ P k
  hP : ∀ k, P k → k < wr.heap.size
  bel : Below w.heap.size w wr
section
variable {w wr w2 : World} {x rx m room : Nat} {R T : Rcd} {P : Nat → Prop}
theorem PtSt.below (h : PtSt w wr x rx m room R T P) (k : Below wr.heap.size wr w2) : PtSt w w2 x rx m room R T P := by
  obtain ⟨O, U, g1, g2, h1, h2, h3⟩ := h.g
  exact ⟨⟨O, U, g1.below k, g2.below k, h1, h2, h3⟩, fun i hi => Nat.lt_of_lt_of_le (h.hP i hi) k.size, h.bel.trans (k.mono h.bel.size)⟩
theorem PtSt.with_block (h : PtSt w wr x rx m room R T P) (o : Obj) : PtSt w (wr.alloc o) x rx m room R T (fun k => k = wr.heap.size) := by
  have k := (Below.refl wr.heap.size wr).alloc (Nat.le_refl _) o
  obtain ⟨O, U, g1, g2, h1, h2, h3⟩ := h.g
  exact ⟨⟨O, U, g1.below k, g2.below k, h1, fun i hi => ⟨(h2 i hi).1, fun e => by have := g1.foot i hi; omega⟩, fun i hi => ⟨(h3 i hi).1, fun e => by have := g2.foot i hi; omega⟩⟩, fun i hi => by rw [hi]; simp, h.bel.trans (k.mono h.bel.size)⟩
theorem PtSt.forget (h : PtSt w wr x rx m room R T P) : PtSt w wr x rx m room R T (fun _ => False) := by
  obtain ⟨O, U, g1, g2, h1, h2, h3⟩ := h.g
  exact ⟨⟨O, U, g1, g2, h1, fun i hi => ⟨(h2 i hi).1, fun e => e⟩, fun i hi => ⟨(h3 i hi).1, fun e => e⟩⟩, fun _ hi => hi.elim, h.bel⟩
theorem PtSt.step1 {R' : Rcd} {O U : Nat → Prop} (hB : Below w.heap.size w wr) (hP : ∀ k, P k → k < wr.heap.size) (hO : ∀ k, O k → w.heap.size ≤ k ∧ ¬ P k) (hU : ∀ k, U k → w.heap.size ≤ k ∧ ¬ P k) (hd : ∀ k, O k → ¬ U k) (g1 : GRec w2 x rx room R' (grow O wr w2)) (g2 : Md wr m room T U) (on : Only O wr w2) :
    PtSt w w2 x rx m room R' T P ∧ ∀ k o, P k → wr.heap[k]? = some o → w2.heap[k]? = some o := by
  refine ⟨⟨⟨_, U, g1, g2.only on fun k a b => hd k b a, ?_, ?_, hU⟩, fun i hi => Nat.lt_of_lt_of_le (hP i hi) on.size, hB.trans (on.below hB.size fun i hi q => by have := (hO i q).1; omega)⟩, fun k o hk ho => on.keeps ho fun q => (hO k q).2 hk⟩
  · rintro k (q | q) b
    · exact hd k q b
    · have := g2.foot k b; omega
  · rintro k (q | q)
    · exact hO k q
    · exact ⟨Nat.le_trans hB.size q.1, fun e => by have := hP k e; omega⟩
theorem PtSt.step2 {T' : Rcd} {O U : Nat → Prop} (hB : Below w.heap.size w wr) (hP : ∀ k, P k → k < wr.heap.size) (hO : ∀ k, O k → w.heap.size ≤ k ∧ ¬ P k) (hU : ∀ k, U k → w.heap.size ≤ k ∧ ¬ P k) (hd : ∀ k, O k → ¬ U k) (g1 : GRec wr x rx room R O) (g2 : Md w2 m room T' (grow U wr w2)) (on : Only U wr w2) :
    PtSt w w2 x rx m room R T' P ∧ ∀ k o, P k → wr.heap[k]? = some o → w2.heap[k]? = some o := by
  refine ⟨⟨⟨O, _, g1.only on fun k a b => hd k a b, g2, ?_, hO, ?_⟩, fun i hi => Nat.lt_of_lt_of_le (hP i hi) on.size, hB.trans (on.below hB.size fun i hi q => by have := (hU i q).1; omega)⟩, fun k o hk ho => on.keeps ho fun q => (hU k q).2 hk⟩
  · rintro k a (q | q)
    · exact hd k a q
    · have := g1.foot k a; omega
  · rintro k (q | q)
    · exact hU k q
    · exact ⟨Nat.le_trans hB.size q.1, fun e => by have := hP k e; omega⟩
theorem pput_x (h : PtSt w wr x rx m room R T P) (hn : R.cnt ≤ 4000) (e : Ev) (he : e.Wf) : Calls Try.prog 17 #[.pointer (some ⟨x, 0, none⟩), e.val] wr fun a w' => a = .returned (.int .i64 (R.err e)) ∧ PtSt w w' x rx m room (R.put room e) T P ∧ ∀ k o, P k → wr.heap[k]? = some o → w'.heap[k]? = some o := by
  obtain ⟨O, U, g1, g2, h1, h2, h3⟩ := h.g
  refine (gput_any g1 (by have := cnt_le R; omega) e he).mono ?_
  rintro a w1 ⟨rfl, g, on⟩
  exact ⟨rfl, PtSt.step1 h.bel h.hP h2 h3 h1 g g2 on⟩
theorem pput_m (h : PtSt w wr x rx m room R T P) (hi : T.Inv room) (hr : 20 ≤ room ∧ room ≤ 120) (hn : T.cnt ≤ 3000) (e : Ev) (he : e.Wf) : Calls Try.prog 28 #[.pointer (some ⟨m, 0, none⟩), e.val] wr fun a w' => a = .returned (.int .i64 (T.err e)) ∧ PtSt w w' x rx m room R (T.put room e) P ∧ ∀ k o, P k → wr.heap[k]? = some o → w'.heap[k]? = some o := by
  obtain ⟨O, U, g1, g2, h1, h2, h3⟩ := h.g
  refine (mput_any g2 hi hr (by have := cnt_le T; omega) e he).mono ?_
  rintro a w1 ⟨rfl, g, on⟩
  exact ⟨rfl, PtSt.step2 h.bel h.hP h2 h3 h1 g1 g on⟩
theorem pflush_x (h : PtSt w wr x rx m room R T P) (hn : R.cnt ≤ 4000) : Calls Try.prog 15 #[.pointer (some ⟨x, 0, none⟩)] wr fun a w' => a = .returned (.tuple #[]) ∧ PtSt w w' x rx m room R.flush T P := by
  obtain ⟨O, U, g1, g2, h1, h2, h3⟩ := h.g
  refine (gflush_any g1 (by have := cnt_le R; omega)).mono ?_
  rintro a w1 ⟨rfl, g, on⟩
  exact ⟨rfl, (PtSt.step1 h.bel h.hP h2 h3 h1 g g2 on).1⟩
theorem pflush_m (h : PtSt w wr x rx m room R T P) (hn : T.cnt ≤ 4000) : Calls Try.prog 29 #[.pointer (some ⟨m, 0, none⟩)] wr fun a w' => a = .returned (.tuple #[]) ∧ PtSt w w' x rx m room R T.flush P := by
  obtain ⟨O, U, g1, g2, h1, h2, h3⟩ := h.g
  refine (mflush_any g2 (by have := cnt_le T; omega)).mono ?_
  rintro a w1 ⟨rfl, g, on⟩
  exact ⟨rfl, (PtSt.step2 h.bel h.hP h2 h3 h1 g1 g on).1⟩
theorem pclose_x (h : PtSt w wr x rx m room R T P) (hn : R.cnt ≤ 4000) (cy ct : Nat) (hc1 : cy < 18446744073709551616) (hc2 : ct < 18446744073709551616) : Calls Try.prog 18 #[.pointer (some ⟨x, 0, none⟩), .int .u64 cy, .int .u64 ct] wr fun a w' => a = .returned (.int .i64 (R.err (closeEv cy ct))) ∧ PtSt w w' x rx m room (R.close room cy ct) T P ∧ ∀ k o, P k → wr.heap[k]? = some o → w'.heap[k]? = some o := by
  obtain ⟨O, U, g1, g2, h1, h2, h3⟩ := h.g
  refine (gclose_any g1 (by have := cnt_le R; omega) cy ct hc1 hc2).mono ?_
  rintro a w1 ⟨rfl, g, on⟩
  exact ⟨rfl, PtSt.step1 h.bel h.hP h2 h3 h1 g g2 on⟩
theorem pclose_m (h : PtSt w wr x rx m room R T P) (hi : T.Inv room) (hr : 20 ≤ room ∧ room ≤ 120) (hn : T.cnt ≤ 3000) (cy ct : Nat) (hc1 : cy < 18446744073709551616) (hc2 : ct < 18446744073709551616) : Calls Try.prog 30 #[.pointer (some ⟨m, 0, none⟩), .int .u64 cy, .int .u64 ct] wr fun a w' => a = .returned (.int .i64 (T.err (closeEv cy ct))) ∧ PtSt w w' x rx m room R (T.close room cy ct) P ∧ ∀ k o, P k → wr.heap[k]? = some o → w'.heap[k]? = some o := by
  obtain ⟨O, U, g1, g2, h1, h2, h3⟩ := h.g
  refine (mclose_any g2 hi hr (by have := cnt_le T; omega) cy ct hc1 hc2).mono ?_
  rintro a w1 ⟨rfl, g, on⟩
  exact ⟨rfl, PtSt.step2 h.bel h.hP h2 h3 h1 g1 g on⟩
theorem pcalls (h : PtSt w wr x rx m room R R P) :
    (∀ a, Calls Try.prog 19 #[.pointer (some ⟨x, 0, none⟩)] (wr.drewN a) (fun e w'' => e = .returned (.int .i64 R.fr.length) ∧ ∃ m, w'' = wr.drewN m)) ∧
    (∀ a, Calls Try.prog 20 #[.pointer (some ⟨x, 0, none⟩)] (wr.drewN a) (fun e w'' => e = .returned (.int .i64 R.op.length) ∧ ∃ m, w'' = wr.drewN m)) ∧
    (∀ a, Calls Try.prog 22 #[.pointer (some ⟨rx, 0, none⟩)] (wr.drewN a) (fun e w'' => e = .returned (.int .i64 R.fr.length) ∧ ∃ m, w'' = wr.drewN m)) ∧
    ∃ fa fc oa oc, wr.cell? ⟨m, 1, none⟩ = some (.slice fa R.fr.length fc) ∧ wr.cell? ⟨m, 2, none⟩ = some (.slice oa R.op.length oc) := by
  obtain ⟨O, U, g1, g2, h1, h2, h3⟩ := h.g
  exact ⟨fun a => (gframes_any (g1.below (kept_drewN wr a))).mono fun e w' h => ⟨h.1, a, h.2.symm⟩, fun a => (gopen_any (g1.below (kept_drewN wr a))).mono fun e w' h => ⟨h.1, a, h.2.symm⟩, fun a => (gheld_any (g1.below (kept_drewN wr a))).mono fun e w' h => ⟨h.1, a, h.2.symm⟩, g2.lens⟩
end
theorem ops_inv (room : Nat) (hr : 20 ≤ room) (z : Nat → OpR) : ∀ n, (∀ i, i < n → (z i).Wf) → (opsR room z n).Inv room
  | 0, _ => rcd0_inv room
  | n + 1, h => by
    have ih := ops_inv room hr z n fun i hi => h i (by omega)
    have hw := (h n (by omega)).e
    show ((z n).go room (opsR room z n)).Inv room
    unfold OpR.go
    split
    · exact ih.put hw hr
    · split
      · exact ih.flush
      · split
        · exact ih.close hw.cy hw.ct hr
        · exact ih
def PtL (w : World) (x rx m room len : Nat) (z : Nat → OpR) (g : Nat) (i : Value) (wr : World) : Prop :=
  ∃ k : Nat, i = .int .i64 k ∧ k ≤ len ∧ PtSt w wr x rx m room (opsR room z k) (opsR room z k) (fun _ => False) ∧ len - k ≤ g
/-- The texts, one behind the other. -/
def catX (fr : List (List Ev)) : Nat → ByteArray
  | 0 => ⟨#[]⟩
  | n + 1 => catX fr n ++ txB fr n
theorem catX_list (fr : List (List Ev)) : ∀ n, n ≤ fr.length → (catX fr n).data.toList = (txt 0 (fr.take n)).flatten
  | 0, _ => rfl
  | n + 1, h => by
    have ih := catX_list fr n (by omega)
    have e1 : fr.take (n + 1) = fr.take n ++ [fr.getD n []] := by
      rw [List.take_add_one, List.getD_eq_getElem?_getD, List.getElem?_eq_getElem (by omega)]; rfl
    rw [e1, txt_snoc, List.flatten_append]
    show ((catX fr n) ++ (txB fr n)).data.toList = _
    have e2 : 0 + (fr.take n).length = n := by rw [List.length_take]; omega
    rw [e2]
    simp [ih, txB]
theorem catX_all (fr : List (List Ev)) : catX fr fr.length = ⟨((txt 0 fr).flatten).toArray⟩ := by
  have := catX_list fr fr.length (Nat.le_refl _)
  rw [List.take_length] at this
  exact ba_eq (by simpa using this)
theorem txB_size {room : Nat} {R : Rcd} (h : R.Inv room) (hr : room ≤ 120) {n : Nat} (hn : n < R.fr.length) : (txB R.fr n).size ≤ 179 := by
  have hm : R.fr.getD n [] ∈ R.fr := by rw [List.getD_eq_getElem?_getD, List.getElem?_eq_getElem hn]; exact List.getElem_mem hn
  obtain ⟨k1, k2, k3⟩ := h.fr _ hm
  have := frT_len (seq := n) k1 k2 (by omega)
  show (List.toArray _).size ≤ _
  rw [List.size_toArray]
  omega
theorem catX_size {room : Nat} {R : Rcd} (h : R.Inv room) (hr : room ≤ 120) : ∀ n, n ≤ R.fr.length → (catX R.fr n).size ≤ 179 * n
  | 0, _ => Nat.le_refl _
  | n + 1, hn => by
    have h1 := catX_size h hr n (by omega)
    have h2 := txB_size h hr (n := n) (by omega)
    show (catX R.fr n ++ txB R.fr n).size ≤ _
    rw [ByteArray.size_append]
    omega
def CtR (w : World) (fr : List (List Ev)) (g : Nat) (i s : Value) (wr : World) : Prop :=
  ∃ k : Nat, i = .int .i64 k ∧ k ≤ fr.length ∧ s = .string (catX fr k) ∧ wr = w ∧ fr.length - k ≤ g
set_option maxHeartbeats 8000000 in
theorem recPuts_law (room0 : Int) (oa : Option Addr) (len cap : Nat) (z : Nat → OpR) (w : World) (_hr0 : (Lit.int .i64 room0).wf = true) (hs : SlArgN w oa len cap 7 (fun i j => (z i).f j)) (hr : cap * 48 ≤ 140737488351232) (hx : ∀ i, i < len → (z i).Wf) :
    Calls Try.prog 7 #[.int .i64 room0, .slice oa len cap] w fun e w' => e = .returned (.bool true) ∧ Below w.heap.size w w' := by
  by_cases hb : room0 < 20 ∨ 120 < room0
  · by_cases hb1 : room0 < 20
    · have n1 : decide ((20 : Int) ≤ room0) = false := decide_eq_false (by omega)
      go_enter Try.func7, Try.ntmps7
      go_wp2_with fail
      refine (fresh_bad _ hb _).mono ?_
      rintro a w1 ⟨rb, rfl, hk1⟩
      go_wp2_with fail
      refine (awake23 _).mono ?_
      rintro a w3 ⟨rfl, hk3⟩
      go_wp2_with fail
      go_ret
      exact ⟨rfl, hk1.trans (hk3.mono hk1.size)⟩
    · have n1 : decide ((20 : Int) ≤ room0) = true := decide_eq_true (by omega)
      have n2 : decide (room0 ≤ (120 : Int)) = false := decide_eq_false (by omega)
      go_enter Try.func7, Try.ntmps7
      go_wp2_with fail
      refine (fresh_bad _ hb _).mono ?_
      rintro a w1 ⟨rb, rfl, hk1⟩
      go_wp2_with fail
      refine (awake23 _).mono ?_
      rintro a w3 ⟨rfl, hk3⟩
      go_wp2_with fail
      go_ret
      exact ⟨rfl, hk1.trans (hk3.mono hk1.size)⟩
  · obtain ⟨room, rfl⟩ : ∃ room : Nat, room0 = room := ⟨room0.toNat, by omega⟩
    have r1 : 20 ≤ room := by omega
    have r2 : room ≤ 120 := by omega
    have n1 : decide ((20 : Int) ≤ (room : Int)) = true := decide_eq_true (by omega)
    have n2 : decide ((room : Int) ≤ (120 : Int)) = true := decide_eq_true (by omega)
    clear hb
    go_enter Try.func7, Try.ntmps7
    go_wp2_with fail
    refine (fresh_any room r1 r2 _).mono ?_
    rintro a w1 ⟨x, rx, O, rfl, g, hO, hk1⟩
    go_wp2_with fail
    refine (awake23 _).mono ?_
    rintro a w2 ⟨rfl, hk2⟩
    have g2 := g.below hk2
    have hk12 := hk1.trans (hk2.mono hk1.size)
    clear g hk1 hk2
    by_cases hl : len ≤ 300
    · have hd : decide ((300 : Int) < len) = false := by simp; omega
      have hal := (Below.refl w2.heap.size w2).alloc (Nat.le_refl _) (.cells #[.int .i64 room, .slice none 0 0, .slice none 0 0, .int .i64 0, .int .u64 0, .int .u64 0, .int .u32 0, .int .u32 0, .int .u32 0, .bool false] 57)
      have hme := heap_alloc_new w2 (.cells #[.int .i64 room, .slice none 0 0, .slice none 0 0, .int .i64 0, .int .u64 0, .int .u64 0, .int .u32 0, .int .u32 0, .int .u32 0, .bool false] 57)
      have hMd : Md (w2.alloc (.cells #[.int .i64 room, .slice none 0 0, .slice none 0 0, .int .i64 0, .int .u64 0, .int .u64 0, .int .u32 0, .int .u32 0, .int .u32 0, .bool false] 57)) w2.heap.size room rcd0 (fun k => k = w2.heap.size) :=
        ⟨⟨.slice none 0 0, .slice none 0 0, [], ⟨hme, World.ownsRow_nil _ _ _ _, (fun x hx => by cases hx), World.ownsRow_nil _ _ _ _, rfl, (fun g hg => by cases hg), (fun g hg => by cases hg)⟩, rfl⟩, fun k hk => by rw [hk]; exact blk_lt hme⟩
      have st : PtSt w (w2.alloc (.cells #[.int .i64 room, .slice none 0 0, .slice none 0 0, .int .i64 0, .int .u64 0, .int .u64 0, .int .u32 0, .int .u32 0, .int .u32 0, .bool false] 57)) x rx w2.heap.size room rcd0 rcd0 (fun _ => False) :=
        ⟨⟨O, _, g2.below hal, hMd, fun k a b => by have := g2.foot k a; omega, fun k hk => ⟨hO k hk, fun q => q⟩, fun k hk => ⟨by rw [hk]; exact hk12.size, fun q => q⟩⟩, fun _ hi => hi.elim, hk12.trans (hal.mono hk12.size)⟩
      clear g2 hal hme hMd hO
      go_wp2_with fail
      clear hd n1 n2
      go_loopg [43] (len) (fun g i wr => PtL w x rx w2.heap.size room len z g i wr)
      case atStart => exact ⟨0, rfl, Nat.zero_le _, st, by omega⟩
      case round =>
        clear st
        obtain ⟨k, rfl, hk, st, hg⟩ := hrel
        have hcn := ops_cnt room z k
        by_cases hlt : k < len
        · have hlt' : (k : Int) < len := by omega
          have hs1 := hs.kept st.bel
          obtain ⟨b, off, hoa, hbl, hc⟩ := hs1.2.2 k hlt
          obtain ⟨p, hp⟩ : ∃ p, p = z k := ⟨_, rfl⟩
          have c0 := hc 0 (by decide)
          have c1 := hc 1 (by decide)
          have c2 := hc 2 (by decide)
          have c3 := hc 3 (by decide)
          have c4 := hc 4 (by decide)
          have c5 := hc 5 (by decide)
          have c6 := hc 6 (by decide)
          dsimp only [OpR.f, Ev.f, Nat.add_zero] at c0 c1 c2 c3 c4 c5 c6
          rw [← hp] at c0 c1 c2 c3 c4 c5 c6
          subst hoa
          have hw : p.Wf := by rw [hp]; exact hx k hlt
          have hinv := ops_inv room r1 z k fun i hi => hx i (by omega)
          have hpn : opsR room z (k + 1) = p.go room (opsR room z k) := by rw [hp]; rfl
          have HE := Lib.hid (And.intro hp hpn)
          have st1 := st.with_block (.cells #[.int .i64 p.k, .int .i64 p.e.k, .int .u64 p.e.cy, .int .u64 p.e.ct, .int .u32 p.e.a, .int .u32 p.e.b, .int .u32 p.e.v] 59)
          have hblk := heap_alloc_new wr (.cells #[.int .i64 p.k, .int .i64 p.e.k, .int .u64 p.e.cy, .int .u64 p.e.ct, .int .u32 p.e.a, .int .u32 p.e.b, .int .u32 p.e.v] 59)
          clear hp hpn hc hs1 st
          go_upto_region 10 with fail
          obtain ⟨o, ho⟩ : ∃ o, o = wr.heap.size := ⟨_, rfl⟩
          try rw [← ho] at st1 hblk ⊢
          clear ho c0 c1 c2 c3 c4 c5 c6
          generalize wr.alloc (.cells #[.int .i64 p.k, .int .i64 p.e.k, .int .u64 p.e.cy, .int .u64 p.e.ct, .int .u32 p.e.a, .int .u32 p.e.b, .int .u32 p.e.v] 59) = w5 at *
          obtain ⟨RL, hRL⟩ : ∃ RL, RL = opsR room z k := ⟨_, rfl⟩
          rw [← hRL] at st1 hcn hinv
          have HRL := Lib.hid hRL
          have hev : p.e.Wf := hw.e
          obtain ⟨c0, c1, c2, c3, c4, c5, c6⟩ := op_cells (p := p) hblk
          by_cases k1 : p.k = 1
          · have hgo : p.go room RL = RL.put room p.e := if_pos k1
            have k1b : (p.k == 1) = true := by simp [k1]
            have hput1 := pput_x (st1.below (Below.refl w5.heap.size w5).drew) (by omega) p.e hev
            obtain ⟨E, hE⟩ : ∃ E, E = RL.err p.e := ⟨_, rfl⟩
            rw [← hE] at hput1
            unfold Ev.val at hput1
            have hblkd : w5.drew.heap[o]? = _ := hblk
            have H := And.intro c1 (And.intro c2 (And.intro c3 (And.intro c4 (And.intro c5 c6))))
            go_upto_region 12 with fail
            clear c0 c1 c2 c3 c4 c5 c6
            go_region_held3 (fun w' => w'.cell? ⟨o, 1, none⟩ = some (.int .i64 p.e.k) ∧ w'.cell? ⟨o, 2, none⟩ = some (.int .u64 p.e.cy) ∧ w'.cell? ⟨o, 3, none⟩ = some (.int .u64 p.e.ct) ∧ w'.cell? ⟨o, 4, none⟩ = some (.int .u32 p.e.a) ∧ w'.cell? ⟨o, 5, none⟩ = some (.int .u32 p.e.b) ∧ w'.cell? ⟨o, 6, none⟩ = some (.int .u32 p.e.v)) (first | exact H | exact H6 | exact H7) (first | (go_at_call 17; (with_reducible refine hput1.mono ?_); rintro a w6 ⟨rfl, st6, hkeep⟩; have hblk6 := hkeep o _ rfl hblkd; have H6 := (op_cells (p := p) hblk6).2; clear hput1 hkeep; have hput2 := pput_m st6 hinv ⟨r1, r2⟩ (by omega) p.e hev; rw [← hE] at hput2; unfold Ev.val at hput2) | (go_at_call 28; (with_reducible refine hput2.mono ?_); rintro a w7 ⟨rfl, st7, hkeep⟩; have hblk7 := hkeep o _ rfl hblk6; have H7 := (op_cells (p := p) hblk7).2))
            all_goals
              clear hput2 H H6 hblk6 hblkd hblk hkeep
              obtain ⟨hfr, hop, hhd, fa, fc, oaa, occ, m1, m2⟩ := pcalls st7
              obtain ⟨NF, hNF⟩ : ∃ NF, NF = (RL.put room p.e).fr.length := ⟨_, rfl⟩
              obtain ⟨NO, hNO⟩ : ∃ NO, NO = (RL.put room p.e).op.length := ⟨_, rfl⟩
              rw [← hNF] at hfr hhd m1
              rw [← hNO] at hop m2
              clear hNF hNO
              go_upto_region 20 with fail
              go_quiet (first | exact hfr _ | exact hop _ | exact hhd _)
              go_wp2_with fail
              have stF := (st7.forget).below (kept_drewN _ nq)
              obtain ⟨gg, rfl⟩ : ∃ gg, gk = gg + 1 := ⟨gk - 1, by omega⟩
              go_roundg gg
              case measure => omega
              case rel => exact ⟨k + 1, by go_num, by omega, by rw [HE.out.2, ← HRL.out, hgo]; exact stF, by omega⟩
          · have k1b : (p.k == 1) = false := by simp [k1]
            by_cases k2 : p.k = 2
            · have hgo : p.go room RL = RL.flush := by unfold OpR.go; rw [if_neg k1, if_pos k2]
              have k2b : (p.k == 2) = true := by simp [k2]
              have hfl := pflush_x st1 (by omega)
              go_upto_region 16 with ((go_at_call 15; (with_reducible refine hfl.mono ?_); rintro a w6 ⟨rfl, st6⟩))
              have hfl2 := pflush_m st6 (by omega)
              go_upto_region 20 with ((go_at_call 29; (with_reducible refine hfl2.mono ?_); rintro a w7 ⟨rfl, st7⟩))
              clear hfl hfl2 st6
              obtain ⟨hfr, hop, hhd, fa, fc, oaa, occ, m1, m2⟩ := pcalls st7
              obtain ⟨NF, hNF⟩ : ∃ NF, NF = (RL.flush).fr.length := ⟨_, rfl⟩
              obtain ⟨NO, hNO⟩ : ∃ NO, NO = (RL.flush).op.length := ⟨_, rfl⟩
              rw [← hNF] at hfr hhd m1
              rw [← hNO] at hop m2
              clear hNF hNO
              go_upto_region 20 with fail
              go_quiet (first | exact hfr _ | exact hop _ | exact hhd _)
              go_wp2_with fail
              have stF := (st7.forget).below (kept_drewN _ nq)
              obtain ⟨gg, rfl⟩ : ∃ gg, gk = gg + 1 := ⟨gk - 1, by omega⟩
              go_roundg gg
              case measure => omega
              case rel => exact ⟨k + 1, by go_num, by omega, by rw [HE.out.2, ← HRL.out, hgo]; exact stF, by omega⟩
            · have k2b : (p.k == 2) = false := by simp [k2]
              by_cases k3 : p.k = 3
              · have hgo : p.go room RL = RL.close room p.e.cy p.e.ct := by unfold OpR.go; rw [if_neg k1, if_neg k2, if_pos k3]
                have k3b : (p.k == 3) = true := by simp [k3]
                have hclo := pclose_x (st1.below (Below.refl w5.heap.size w5).drew) (by omega) p.e.cy p.e.ct hev.cy hev.ct
                obtain ⟨E, hE⟩ : ∃ E, E = RL.err (closeEv p.e.cy p.e.ct) := ⟨_, rfl⟩
                rw [← hE] at hclo
                have hblkd : w5.drew.heap[o]? = _ := hblk
                have H := And.intro c2 c3
                go_upto_region 18 with fail
                clear c0 c1 c2 c3 c4 c5 c6
                go_region_held3 (fun w' => w'.cell? ⟨o, 2, none⟩ = some (.int .u64 p.e.cy) ∧ w'.cell? ⟨o, 3, none⟩ = some (.int .u64 p.e.ct)) (first | exact H | exact H6 | exact H7) (first | (go_at_call 18; (with_reducible refine hclo.mono ?_); rintro a w6 ⟨rfl, st6, hkeep⟩; have hblk6 := hkeep o _ rfl hblkd; have H6 := And.intro (op_cells (p := p) hblk6).2.2.1 (op_cells (p := p) hblk6).2.2.2.1; clear hclo hkeep; have hclo2 := pclose_m st6 hinv ⟨r1, r2⟩ (by omega) p.e.cy p.e.ct hev.cy hev.ct; rw [← hE] at hclo2) | (go_at_call 30; (with_reducible refine hclo2.mono ?_); rintro a w7 ⟨rfl, st7, hkeep⟩; have hblk7 := hkeep o _ rfl hblk6; have H7 := And.intro (op_cells (p := p) hblk7).2.2.1 (op_cells (p := p) hblk7).2.2.2.1))
                all_goals
                  clear hclo2 H H6 hblk6 hblkd hblk hkeep
                  obtain ⟨hfr, hop, hhd, fa, fc, oaa, occ, m1, m2⟩ := pcalls st7
                  obtain ⟨NF, hNF⟩ : ∃ NF, NF = (RL.close room p.e.cy p.e.ct).fr.length := ⟨_, rfl⟩
                  obtain ⟨NO, hNO⟩ : ∃ NO, NO = (RL.close room p.e.cy p.e.ct).op.length := ⟨_, rfl⟩
                  rw [← hNF] at hfr hhd m1
                  rw [← hNO] at hop m2
                  clear hNF hNO
                  go_upto_region 20 with fail
                  go_quiet (first | exact hfr _ | exact hop _ | exact hhd _)
                  go_wp2_with fail
                  have stF := (st7.forget).below (kept_drewN _ nq)
                  obtain ⟨gg, rfl⟩ : ∃ gg, gk = gg + 1 := ⟨gk - 1, by omega⟩
                  go_roundg gg
                  case measure => omega
                  case rel => exact ⟨k + 1, by go_num, by omega, by rw [HE.out.2, ← HRL.out, hgo]; exact stF, by omega⟩
              · have k3b : (p.k == 3) = false := by simp [k3]
                have hgo : p.go room RL = RL := by unfold OpR.go; rw [if_neg k1, if_neg k2, if_neg k3]
                obtain ⟨hfr, hop, hhd, fa, fc, oaa, occ, m1, m2⟩ := pcalls st1
                obtain ⟨NF, hNF⟩ : ∃ NF, NF = (RL).fr.length := ⟨_, rfl⟩
                obtain ⟨NO, hNO⟩ : ∃ NO, NO = (RL).op.length := ⟨_, rfl⟩
                rw [← hNF] at hfr hhd m1
                rw [← hNO] at hop m2
                clear hNF hNO
                go_upto_region 20 with fail
                go_quiet (first | exact hfr _ | exact hop _ | exact hhd _)
                go_wp2_with fail
                have stF := (st1.forget).below (kept_drewN _ nq)
                obtain ⟨gg, rfl⟩ : ∃ gg, gk = gg + 1 := ⟨gk - 1, by omega⟩
                go_roundg gg
                case measure => omega
                case rel => exact ⟨k + 1, by go_num, by omega, by rw [HE.out.2, ← HRL.out, hgo]; exact stF, by omega⟩
        · have hlt' : ¬ (k : Int) < len := by omega
          obtain rfl : k = len := by omega
          have hinv := ops_inv room r1 z k hx
          obtain ⟨R1, hR1⟩ : ∃ R1, R1 = opsR room z k := ⟨_, rfl⟩
          rw [← hR1] at st hinv hcn
          have hcn1 : R1.fr.length ≤ 300 := by have := cnt_le R1; omega
          have hbel := st.bel
          obtain ⟨O, U, g1, g2, d1, d2, d3⟩ := st.g
          have htx := mtexts_any g2 hinv r2 (by omega)
          obtain ⟨fr, hfr⟩ : ∃ fr, fr = R1.fr := ⟨_, rfl⟩
          rw [← hfr] at htx hcn1
          have hall : (⟨R1.all.toArray⟩ : ByteArray) = catX fr fr.length := by rw [hfr]; exact (catX_all R1.fr).symm
          have HA := Lib.hid hall
          have hsz1 : ∀ j, j < fr.length → (catX fr j).size + (txB fr j).size ≤ 100000 := by
            intro j hj
            rw [hfr] at hj ⊢
            have := catX_size hinv r2 j (by omega)
            have := txB_size hinv r2 hj
            rw [← hfr] at hj
            omega
          have HZ := Lib.hid hsz1
          clear hsz1
          clear hall hfr hR1 st hs hx hg
          go_wp2_with ((go_at_call 31; (refine htx.mono ?_); rintro a w9 ⟨ao9, cp9, rfl, hown9, hk9⟩))
          have g9 := g1.below hk9
          have hbel9 := hbel.trans (hk9.mono hbel.size)
          have HG9 := Lib.hid (And.intro g9 (And.intro hbel9 d2))
          have HO9 := Lib.hid hown9
          clear g1 g2 d1 d2 d3 htx hk9 g9 hbel9 hown9
          go_loopg [117, 10] (fr.length) (fun g i s wr => CtR w9 fr g i s wr)
          case atStart => exact ⟨0, rfl, Nat.zero_le _, rfl, rfl, by omega⟩
          case round =>
            obtain ⟨j, rfl, hj, rfl, rfl, hg⟩ := hrel
            by_cases hlt : j < fr.length
            · have hlt' : (j : Int) < fr.length := by omega
              obtain ⟨g0, hg0⟩ : ∃ g0, ao9 = some ⟨g0, 0, none⟩ := by
                rcases HO9.out.2 with ⟨h1, _⟩ | ⟨g0, cap, cur, h1, _⟩
                · simp only [Value.slice.injEq] at h1; omega
                · simp only [Value.slice.injEq] at h1; exact ⟨g0, h1.1⟩
              subst hg0
              have d0 := HO9.out.cells (g := g0) rfl j (.string (txB fr j)) (by simp [sv, hlt])
              rw [Go.WideShapes.add_plain, Nat.zero_add] at d0
              obtain ⟨S, hS⟩ : ∃ S, S = txB fr j := ⟨_, rfl⟩
              obtain ⟨C, hC⟩ : ∃ C, C = catX fr j := ⟨_, rfl⟩
              rw [← hS] at d0
              have hz1 := HZ.out j hlt
              rw [← hS, ← hC] at hz1
              have hz2 : C.size + S.size ≤ maxLen := by unfold maxLen; omega
              have hz3 : ((C.size : Int) + S.size) ≤ 9223372036854775807 := by omega
              have hz4 : C.size + S.size ≤ 9223372036854775807 := by omega
              have HS := Lib.hid (And.intro hS hC)
              try rw [← hC]
              clear hS hC
              go_wp2_with fail
              obtain ⟨gg, rfl⟩ : ∃ gg, gk = gg + 1 := ⟨gk - 1, by omega⟩
              go_roundg gg
              case measure => omega
              case rel => exact ⟨j + 1, by go_num, by omega, by show _ = Value.string (catX fr j ++ txB fr j); rw [← HS.out.1, ← HS.out.2], rfl, by omega⟩
            · have hlt' : ¬ (j : Int) < fr.length := by omega
              obtain rfl : j = fr.length := by omega
              obtain ⟨g9, hbel9, d2⟩ := id HG9.out
              have hu := gused_any g9
              have hdr := gdrain_any g9
              rw [HA.out] at hdr
              obtain ⟨C, hC⟩ : ∃ C, C = catX fr fr.length := ⟨_, rfl⟩
              rw [← hC] at hdr
              have HC := Lib.hid hC
              clear hC g9 hbel9 d2
              go_wp2_with (first | (go_at_call 26; (with_reducible refine hu.mono ?_); rintro a w10 ⟨rfl, rfl⟩))
              refine hdr.mono ?_
              rintro a w11 ⟨rfl, ⟨FR, L, bg, rr, _⟩, on11⟩
              have hlst := qlost_any rr
              have hb11 := HG9.out.2.1.trans (on11.below HG9.out.2.1.size fun i hi q => by have := (HG9.out.2.2 i q).1; omega)
              have hCC : C = catX fr fr.length := HC.out
              clear rr
              go_wp2_with ((go_at_call 23; (with_reducible refine hlst.mono ?_); rintro a w12 ⟨rfl, rfl⟩))
              go_ret
              exact ⟨by simp, hb11⟩
    · have hd : decide ((300 : Int) < len) = true := by simp; omega
      go_wp2_with fail
      go_ret
      exact ⟨rfl, hk12⟩
end Go.Proofs.Ytbfipgeoecbpaaa
