/- The walk of the statement of layer 24: PipePumps. -/
import Derived.Test.YtbfipgeoecbpaaaPmC
import Derived.Test.YtbfipgeoecbpaaaRgF
namespace Go.Proofs.Ytbfipgeoecbpaaa
open Go.RowKit
set_option linter.unusedVariables false
set_option linter.unusedSimpArgs false
set_option maxRecDepth 20000
def pm0 : Pm := ⟨[], false, 0, [], ⟨#[]⟩, 0, 0, 0, 0⟩
def colr (a0 bp c a1 tb hb mr k : Nat) : Nat := if k < a0 then 9 else if k = bp ∨ k = c then 1 else if k = a1 ∨ k = a1 + 1 then 0 else if k = tb then 3 else if k = hb then 2 else if k = mr then 4 else if k = mr + 1 then 5 else if k = mr + 2 then 6 else 8
theorem pm_start {w W : World} {bp c a1 tb hb mr room cap : Nat} (hB : Below w.heap.size w W) (h1 : w.heap.size ≤ bp ∧ bp < a1) (h2 : w.heap.size ≤ c ∧ c < a1) (h3 : a1 + 1 < tb) (h4 : tb < hb) (h5 : hb < mr) {A : Nat → Prop}
    (hA : ∀ k, A k → k = a1 ∨ k = a1 + 1) (ring : RingL W (a1 + 1) cap 0 [] false 0 A) (pipe : IsPipe W bp c room [] false) (hun : IsHu W hb tb ⟨#[]⟩ 0 0 0 false) (tab : IsTab W tb)
    (rr : W.heap[mr]? = some (.cells (rrCells cap (.slice none 0 0) false 0 (.slice none 0 0)) 79 (0, 0))) (rp : W.heap[mr + 1]? = some (.cells #[.int .i64 room, .slice none 0 0, .bool false] 82 (0, 0))) (rh : IsRh W (mr + 2) ⟨#[]⟩ 0 0 0 0 false) :
    PmSt w W ⟨a1 + 1, bp, c, hb, tb, mr, mr + 1, mr + 2⟩ room cap pm0 pm0 (fun _ => False) := by
  refine ⟨⟨colr w.heap.size bp c a1 tb hb mr, A, (fun k => k = mr), (fun k => k = mr + 1), ?_⟩⟩
  refine { ring := ring, pipe := pipe, hun := Fed.new hun, tab := tab
           rr := ⟨⟨.slice none 0 0, .slice none 0 0, [], ⟨rr, World.ownsRow_nil _ _ _ _, World.ownsRow_nil _ _ _ _, rfl, (fun g hg => by cases hg), (fun g hg => by cases hg), (fun g hg => by cases hg), Nat.le_refl _, Nat.zero_le _, (fun q => by cases q)⟩⟩, fun k hk => by rw [hk]; exact blk_lt rr⟩
           rp := ⟨⟨.slice none 0 0, rp, World.ownsRow_nil _ _ _ _, fun g hg => by cases hg⟩, rfl, fun k hk => by rw [hk]; exact blk_lt rp⟩
           rh := rh, cA := fun k hk => ?_, cp := ⟨?_, ?_⟩, ch := ?_, ct := ?_, cU := fun k hk => ?_, cV := fun k hk => ?_, cm := ?_, cP := fun _ q => q.elim, hP := fun _ q => q.elim, out := fun k hk => ?_, bel := hB }
  · have := hA k hk
    unfold colr
    rw [if_neg (by omega), if_neg (by omega), if_pos (by omega)]
  · unfold colr
    rw [if_neg (by show ¬ bp < _; omega), if_pos (.inl rfl)]
  · unfold colr
    rw [if_neg (by show ¬ c < _; omega), if_pos (.inr rfl)]
  · show colr _ _ _ _ _ _ _ hb = 2
    unfold colr
    rw [if_neg (by omega), if_neg (by omega), if_neg (by omega), if_neg (by omega), if_pos rfl]
  · show colr _ _ _ _ _ _ _ tb = 3
    unfold colr
    rw [if_neg (by omega), if_neg (by omega), if_neg (by omega), if_pos rfl]
  · obtain rfl : k = mr := hk
    unfold colr
    rw [if_neg (by omega), if_neg (by omega), if_neg (by omega), if_neg (by omega), if_neg (by omega), if_pos rfl]
  · obtain rfl : k = mr + 1 := hk
    unfold colr
    rw [if_neg (by omega), if_neg (by omega), if_neg (by omega), if_neg (by omega), if_neg (by omega), if_neg (by omega), if_pos rfl]
  · show colr _ _ _ _ _ _ _ (mr + 2) = 6
    unfold colr
    rw [if_neg (by omega), if_neg (by omega), if_neg (by omega), if_neg (by omega), if_neg (by omega), if_neg (by omega), if_neg (by omega), if_pos rfl]
  · unfold colr
    rw [if_pos hk]
/-- What holds of the state behind k turns. -/
structure PmI (room : Nat) (S : Pm) (k : Nat) : Prop where
  fix : hfin S.T false S.hs = S.hs
  tot : tot S.L S.l S.T ≤ 179 * k
  lo : S.lo ≤ k
  len : S.l.length ≤ room
theorem pm0_i (room : Nat) : PmI room pm0 0 := ⟨hfin_stop (by unfold hstop; simp [pm0, Pm.hs]; exact Or.inl rfl), Nat.le_refl _, Nat.le_refl _, Nat.zero_le _⟩
def pmPut (cap : Nat) (S : Pm) (s : ByteArray) : Pm := { S with L := putL cap S.L s.data.toList, lo := S.lo + putN cap S.L s.data.toList }
theorem PmI.put {room cap k : Nat} {S : Pm} (h : PmI room S k) (s : ByteArray) : PmI room (pmPut cap S s) (k + 1) := by
  have ht := h.tot
  unfold Proofs.Ytbfipgeoecbpaaa.tot at ht
  refine ⟨h.fix, ?_, ?_, h.len⟩
  · show Proofs.Ytbfipgeoecbpaaa.tot (putL cap S.L s.data.toList) S.l S.T ≤ _
    unfold Proofs.Ytbfipgeoecbpaaa.tot putL
    split
    · rename_i hE
      have hs : s.data.toList.length ≤ 179 := by
        unfold putE at hE
        split at hE
        · cases hE
        · omega
      rw [List.flatten_append, List.length_append]
      simp only [List.flatten_cons, List.flatten_nil, List.append_nil]
      omega
    · omega
  · show S.lo + putN cap S.L s.data.toList ≤ k + 1
    have := h.lo
    unfold putN
    split <;> omega
theorem PmI.up {room k : Nat} {S : Pm} (h : PmI room S k) : PmI room S (k + 1) := ⟨h.fix, by have := h.tot; omega, by have := h.lo; omega, h.len⟩
def pmPump (S : Pm) (n : Nat) : Pm := { S with L := (drn S.L n S.bg).1, bg := (drn S.L n S.bg).2, l := if n = 0 then S.l else S.l ++ [⟨(S.L.flatten.take n).toArray⟩] }
theorem PmI.pump {room k n : Nat} {S : Pm} (h : PmI room S k) (hn : n ≠ 0 → S.l.length < room) : PmI room (pmPump S n) (k + 1) := by
  have ht := h.tot
  unfold Proofs.Ytbfipgeoecbpaaa.tot at ht
  by_cases h0 : n = 0
  · subst h0
    have e : pmPump S 0 = S := by unfold pmPump; rw [drn_zero]; rfl
    rw [e]; exact h.up
  · refine ⟨h.fix, ?_, by have := h.lo; show S.lo ≤ _; omega, ?_⟩
    · show Proofs.Ytbfipgeoecbpaaa.tot (drn S.L n S.bg).1 (if n = 0 then S.l else S.l ++ [⟨(S.L.flatten.take n).toArray⟩]) S.T ≤ _
      unfold Proofs.Ytbfipgeoecbpaaa.tot
      rw [if_neg h0, drn_flat, List.length_drop, List.map_append, List.sum_append]
      have : ((⟨(S.L.flatten.take n).toArray⟩ : ByteArray)).size = min n S.L.flatten.length := by
        show (List.toArray _).size = _
        rw [List.size_toArray, List.length_take]
      simp only [List.map_cons, List.map_nil, List.sum_cons, List.sum_nil]
      rw [this]
      omega
    · show (if n = 0 then S.l else S.l ++ [_]).length ≤ room
      rw [if_neg h0, List.length_append]
      have := hn h0
      simp
      omega
def pmFeed (S : Pm) (x : ByteArray) (t : List ByteArray) : Pm := { S with l := t, T := S.T ++ x, p := (hfin (S.T ++ x) false S.hs).p, nx := (hfin (S.T ++ x) false S.hs).nx, sk := (hfin (S.T ++ x) false S.hs).sk, lo2 := (hfin (S.T ++ x) false S.hs).lo }
theorem PmI.feed {room k : Nat} {S : Pm} (h : PmI room S k) {x : ByteArray} {t : List ByteArray} (hl : S.l = x :: t) (ok : S.p ≤ S.T.size) : PmI room (pmFeed S x t) (k + 1) := by
  have ht := h.tot
  unfold Proofs.Ytbfipgeoecbpaaa.tot at ht
  rw [hl] at ht
  have hlen := h.len
  rw [hl] at hlen
  refine ⟨hfin_fix (S.T ++ x) S.hs (by rw [ByteArray.size_append]; show S.p ≤ _; omega), ?_, by have := h.lo; show S.lo ≤ _; omega, by simp at hlen; show t.length ≤ room; omega⟩
  show Proofs.Ytbfipgeoecbpaaa.tot S.L t (S.T ++ x) ≤ _
  unfold Proofs.Ytbfipgeoecbpaaa.tot
  rw [ByteArray.size_append]
  simp only [List.map_cons, List.sum_cons] at ht
  omega
def PmL (w : World) (N : Nms) (room cap len : Nat) (g : Nat) (i : Value) (wr : World) : Prop :=
  ∃ (k : Nat) (S : Pm), i = .int .i64 k ∧ k ≤ len ∧ PmSt w wr N room cap S S (fun _ => False) ∧ PmI room S k ∧ len - k ≤ g
theorem itm_none {its : List Itm} {S : Pm} (h : its.map Itm.p = S.hs.its) : its = [] := by
  have := congrArg List.length h
  rw [List.length_map] at this
  exact List.eq_nil_of_length_eq_zero this
theorem pm_go_fix {w wr : World} {N : Nms} {room cap : Nat} {S : Pm} {P : Nat → Prop} (h : PmSt w wr N room cap S S P) (ok : HS.Ok S.T S.hs) (hsk : S.sk ≤ S.p) (fix : hfin S.T false S.hs = S.hs) (hs : S.T.size ≤ 1000000000) : Calls Try.prog 51 #[.pointer (some ⟨N.mh, 0, none⟩)] wr fun a w' => ∃ ao cp, a = .returned (.slice ao 0 cp) ∧ ItIn w' wr.heap.size (.slice ao 0 cp) [] ∧
    PmSt w w' N room cap S S P := by
  refine (pm_go h ok hsk hs).mono ?_
  rintro a w1 ⟨ao, cp, its, rfl, i1, i2, st, _, _⟩
  rw [fix] at i1 st
  obtain rfl := itm_none i1
  exact ⟨ao, cp, rfl, i2, st⟩
theorem tu_cells {W : World} {o : Nat} {p : TuR} {T : TypeId} (h : W.heap[o]? = some (.cells #[.int .i64 p.k, .int .i64 p.n, .string p.s] T (0, 0))) : W.cell? ⟨o, 0, none⟩ = some (.int .i64 p.k) ∧ W.cell? ⟨o, 1, none⟩ = some (.int .i64 p.n) ∧ W.cell? ⟨o, 2, none⟩ = some (.string p.s) := by
  refine ⟨?_, ?_, ?_⟩ <;> (rw [cell_blk h]; rfl)
theorem qnew_badP (n : Int) (p : Int) (h : n < 179 ∨ 1048576 < n) (w : World) : Calls Try.prog 12 #[.int .i64 n, .int .i64 p] w fun x w' => x = .returned (.tuple #[.pointer none, .int .i64 1]) ∧ w = w' := by
  by_cases h1 : n < 179
  · go_enter Try.func12, Try.ntmps12
    go_wp2_with fail
    go_ret2
    exact ⟨rfl, rfl⟩
  · have h2 : (1048576 : Int) < n := by omega
    go_enter Try.func12, Try.ntmps12
    go_wp2_with fail
    go_ret2
    exact ⟨rfl, rfl⟩
set_option maxHeartbeats 8000000 in
theorem pipePumps_main (room cap : Nat) (r1 : 1 ≤ room) (r2 : room ≤ 64) (q1 : 179 ≤ cap) (q2 : cap ≤ 1048576) (oa : Option Addr) (len cp : Nat) (z : Nat → TuR) (w : World) (hs : SlArgN w oa len cp 3 (fun i j => (z i).f j)) (hx : ∀ i, i < len → (z i).Wf) :
    Calls Try.prog 10 #[.int .i64 room, .int .i64 cap, .slice oa len cp] w fun e w' => e = .returned (.bool true) ∧ Below w.heap.size w w' := by
  go_enter Try.func10, Try.ntmps10
  go_wp2_with fail
  refine (pnew_any room r1 r2 _).mono ?_
  rintro a w1 ⟨bp, c, rfl, hP, hb, hc, hk1⟩
  go_wp2_with fail
  refine (qnew_any cap 0 (.inl rfl) q1 q2 _).mono ?_
  rintro a w2 ⟨rfl, hR, hk2⟩
  go_wp2_with fail
  refine (awake24 _).mono ?_
  rintro a w3 ⟨rfl, hk3⟩
  have hpl := blk_lt hP.blk
  have hcl : c < w1.heap.size := by obtain ⟨s, r, h2⟩ := hP.ch; exact blk_lt h2
  have hrl := hR.foot _ (.inr rfl)
  have k12 := hk1.trans (hk2.mono hk1.size)
  have k13 := k12.trans (hk3.mono k12.size)
  have hP2 := hP.only (Only.of_below (hk2.trans (hk3.mono hk2.size)) (fun _ => False)) (fun q => q) (fun q => q)
  have hR2 := hR.below hk3
  by_cases hl : len ≤ 200
  · have hd : decide ((200 : Int) < len) = false := by simp; omega
    go_wp2_with fail
    refine (make_any _).mono ?_
    rintro a w4 ⟨rfl, hT, hk4⟩
    have htl := blk_lt hT.choose_spec.1
    go_wp2_with fail
    refine (hnew_any _ _).mono ?_
    rintro a w5 ⟨rfl, hH, hk5⟩
    have hhl := blk_lt hH
    have k14 := k13.trans (hk4.mono k13.size)
    have k15 := k14.trans (hk5.mono k14.size)
    have k35 := hk4.trans (hk5.mono hk4.size)
    have b6 := (Below.refl w5.heap.size w5).alloc (Nat.le_refl _) (.cells #[.int .i64 cap, .int .i64 0, .slice none 0 0, .bool false, .int .u64 0, .slice none 0 0] 79)
    have b7 := b6.alloc b6.size (.cells #[.int .i64 room, .slice none 0 0, .bool false] 82)
    have b8 := b7.alloc b7.size (.cells #[.string ⟨#[]⟩, .int .i64 0, .int .u64 0, .int .u64 0, .int .u64 0, .bool false] 85)
    have m6 := heap_alloc_new w5 (.cells #[.int .i64 cap, .int .i64 0, .slice none 0 0, .bool false, .int .u64 0, .slice none 0 0] 79)
    have m7 := heap_alloc_new (w5.alloc (.cells #[.int .i64 cap, .int .i64 0, .slice none 0 0, .bool false, .int .u64 0, .slice none 0 0] 79)) (.cells #[.int .i64 room, .slice none 0 0, .bool false] 82)
    have m8 := heap_alloc_new ((w5.alloc (.cells #[.int .i64 cap, .int .i64 0, .slice none 0 0, .bool false, .int .u64 0, .slice none 0 0] 79)).alloc (.cells #[.int .i64 room, .slice none 0 0, .bool false] 82)) (.cells #[.string ⟨#[]⟩, .int .i64 0, .int .u64 0, .int .u64 0, .int .u64 0, .bool false] 85)
    rw [World.size_alloc] at m7
    rw [World.size_alloc, World.size_alloc] at m8
    have s2 := hk2.size
    have s3 := hk3.size
    have s4 := hk4.size
    have s5 := hk5.size
    have st := pm_start (w := w) (bp := bp) (c := c) (a1 := w1.heap.size) (tb := w3.heap.size) (hb := w4.heap.size) (mr := w5.heap.size) (room := room) (cap := cap) (k15.trans (b8.mono k15.size)) ⟨hb, hpl⟩ ⟨hc, hcl⟩ (by omega) (by omega) (by omega) (A := NewFoot w1) (fun k q => q) (hR2.below (k35.trans (b8.mono k35.size))) (hP2.only (Only.of_below (k35.trans (b8.mono k35.size)) (fun _ => False)) (fun q => q) (fun q => q)) (hH.below b8) ((hT.kept hk5).kept b8) (blk_alloc (blk_alloc m6 _) _) (blk_alloc m7 _) m8
    have HN := Lib.hid (And.intro st k13)
    clear hP hR hk1 hk2 hk3 hpl hcl hrl k12 k13 hP2 hR2 hT hk4 htl hH hk5 hhl k14 k15 k35 b6 b7 b8 m6 m7 m8 st hb hc
    have st := HN.out.1
    go_wp2_with fail
    clear hd
    go_loopg [69] (len) (fun g i wr => PmL w ⟨w1.heap.size + 1, bp, c, w4.heap.size, w3.heap.size, w5.heap.size, w5.heap.size + 1, w5.heap.size + 2⟩ room cap len g i wr)
    case atStart => exact ⟨0, pm0, rfl, Nat.zero_le _, st, pm0_i room, by omega⟩
    case round =>
      clear st
      obtain ⟨k, S, rfl, hk, st, hI, hg⟩ := hrel
      by_cases hlt : k < len
      · have hlt' : (k : Int) < len := by omega
        obtain ⟨κ0, A0, U0, V0, b0⟩ := st.b
        have hs1 := hs.kept b0.bel
        obtain ⟨b, off, hoa, hbl, hc⟩ := hs1.2.2 k hlt
        clear b0
        obtain ⟨p, hp⟩ : ∃ p, p = z k := ⟨_, rfl⟩
        have c0 := hc 0 (by decide)
        have c1 := hc 1 (by decide)
        have c2 := hc 2 (by decide)
        dsimp only [TuR.f, Nat.add_zero] at c0 c1 c2
        rw [← hp] at c0 c1 c2
        subst hoa
        have hw : p.Wf := by rw [hp]; exact hx k hlt
        have st1 := st.with_block (.cells #[.int .i64 p.k, .int .i64 p.n, .string p.s] 87)
        have hblk := heap_alloc_new wr (.cells #[.int .i64 p.k, .int .i64 p.n, .string p.s] 87)
        clear hp hc hs1 st
        go_upto_region 11 with fail
        obtain ⟨o, ho⟩ : ∃ o, o = wr.heap.size := ⟨_, rfl⟩
        try rw [← ho] at st1 hblk ⊢
        clear ho c0 c1 c2
        generalize wr.alloc (.cells #[.int .i64 p.k, .int .i64 p.n, .string p.s] 87) = wA at *
        obtain ⟨c0, c1, c2⟩ := tu_cells hblk
        obtain ⟨L1, L2, L3, L4, L5, L6⟩ := pm_len st1
        have hlo := hI.lo
        have hLb : S.L.flatten.length ≤ 36000 := by have := hI.tot; unfold Proofs.Ytbfipgeoecbpaaa.tot at this; omega
        by_cases k1 : p.k = 1
        · have k1b : (p.k == 1) = true := by simp [k1]
          have hr1 := pm_rput st1 p.s (by omega)
          go_upto_region 14 with ((go_at_call 40; (with_reducible refine hr1.mono ?_); rintro a wB ⟨⟨kk, rfl⟩, stB, keepB⟩))
          have hblkB := keepB o _ rfl hblk
          obtain ⟨d0, d1, d2⟩ := tu_cells hblkB
          have hm1 := pm_mput stB p.s (by omega) q2 (by omega) (by omega)
          clear hr1 c0 c1 c2 keepB hblk
          go_upto_region 29 with ((go_at_call 44; (with_reducible refine hm1.mono ?_); rintro a wC ⟨⟨kk, rfl⟩, stC, keepC⟩))
          clear hm1 d0 d1 d2 keepC hblkB
          have stC : PmSt w wC _ room cap (pmPut cap S p.s) (pmPut cap S p.s) (fun k => k = o) := stC
          have hI2 := hI.put (cap := cap) p.s
          obtain ⟨E1, E2, E3, E4, E5, E6⟩ := pm_len stC
          have hLb2 : ((pmPut cap S p.s)).L.flatten.length ≤ 36000 := by have := (hI2).tot; unfold Proofs.Ytbfipgeoecbpaaa.tot at this; omega
          obtain ⟨e1, e2, e3, oq, ocq, m1⟩ := pm_ends stC (by omega) (by omega)
          obtain ⟨UU, hUU⟩ : ∃ UU, UU = ((pmPut cap S p.s)).L.flatten.length := ⟨_, rfl⟩
          obtain ⟨LL, hLL⟩ : ∃ LL, LL = ((pmPut cap S p.s)).l.length := ⟨_, rfl⟩
          rw [← hUU] at e1 e2
          rw [← hLL] at e3 m1
          clear hUU hLL hLb2
          go_upto_region 29 with fail
          go_quiet (first | exact e1 _ | exact e2 _ | exact e3 _)
          go_wp2_with fail
          have stF := (stC.forget).below (kept_drewN _ nq)
          obtain ⟨gg, rfl⟩ : ∃ gg, gk = gg + 1 := ⟨gk - 1, by omega⟩
          go_roundg gg
          case measure => omega
          case rel => exact ⟨k + 1, (pmPut cap S p.s), by go_num, by omega, stF, hI2, by omega⟩
        · have k1b : (p.k == 1) = false := by simp [k1]
          by_cases k2 : p.k = 2
          · have k2b : (p.k == 2) = true := by simp [k2]
            obtain ⟨κ1, A1, U1, V1, b1⟩ := st1.b
            obtain ⟨oq1, ocq1, mq1⟩ := b1.rp.len
            clear b1
            have hus := pm_mused st1 (by omega) (by omega)
            obtain ⟨Q, hQ⟩ : ∃ Q, Q = S.L.flatten.length := ⟨_, rfl⟩
            obtain ⟨M, hM⟩ : ∃ M, M = S.l.length := ⟨_, rfl⟩
            rw [← hQ] at hus
            rw [← hM] at mq1
            have HQ := Lib.hid (And.intro hQ hM)
            clear hQ hM
            by_cases g1 : M < room
            · have g1d : decide ((M : Int) < room) = true := decide_eq_true (by omega)
              by_cases g2 : 0 < p.n
              · have g2d : decide (0 < p.n) = true := decide_eq_true g2
                by_cases g3 : 0 < Q
                · have g3d : decide ((0 : Int) < Q) = true := decide_eq_true (by omega)
                  obtain ⟨K, hK⟩ : ∃ K, K = p.n.toNat := ⟨_, rfl⟩
                  have hKp : (K : Int) = p.n := by omega
                  have hn1 := hw.n1
                  have hdr := pm_mdrain st1 K (by omega) (by omega) (by omega) L4
                  rw [hKp] at hdr
                  obtain ⟨k0, hk0⟩ : ∃ k0, k0 = min K Q := ⟨_, rfl⟩
                  have hQ1 := HQ.out.1
                  have hk0p : k0 ≠ 0 := by omega
                  obtain ⟨D, hD⟩ : ∃ D, D = toB (S.L.flatten.take K) := ⟨_, rfl⟩
                  have hDs : D.size = k0 := by rw [hD, toB_size, List.length_take]; omega
                  have hDe : D = ⟨(S.L.flatten.take k0).toArray⟩ := by rw [hD, take_minR, ← hQ1, ← hk0]; rfl
                  rw [← hD] at hdr
                  have hkp : pumpN room S.l.length false p.n S.L.flatten.length = k0 := by
                    unfold pumpN
                    have q2 := HQ.out.2
                    rw [if_neg (by rintro (q | q | q); cases q; omega; omega), ← hQ1, ← hK, hk0]
                  have hSe : ({ S with L := (drn S.L (min K S.L.flatten.length) S.bg).1, bg := (drn S.L (min K S.L.flatten.length) S.bg).2, l := S.l ++ [D] } : Pm) = pmPump S k0 := by
                    unfold pmPump
                    rw [if_neg hk0p, hDe, ← hQ1, ← hk0]
                  have HS := Lib.hid (And.intro hkp hSe)
                  clear hkp hSe hDe hD hk0 hQ1 hK
                  go_upto_region 19 with (first | (go_at_call 45; (with_reducible refine hus.mono ?_); rintro a wU ⟨rfl, rfl⟩) | (go_at_call 46; (with_reducible refine hdr.mono ?_); rintro a wB ⟨rfl, stB, keepB⟩))
                  have hblkB := keepB o _ rfl hblk
                  obtain ⟨d0, d1, d2⟩ := tu_cells hblkB
                  have hof := pm_offer stB (by show S.l.length < room; have := HQ.out.2; omega) r2 D
                  clear hdr hus c0 c1 c2 hblk keepB mq1
                  go_upto_region 21 with ((go_at_call 47; (with_reducible refine hof.mono ?_); rintro a wC ⟨rfl, stC, keepC⟩))
                  have hblkC := keepC o _ rfl hblkB
                  have stC : PmSt w wC ⟨w1.heap.size + 1, bp, c, w4.heap.size, w3.heap.size, w5.heap.size, w5.heap.size + 1, w5.heap.size + 2⟩ room cap S (pmPump S k0) (fun k => k = o) := by rw [← HS.out.2]; exact stC
                  obtain ⟨f0, f1, f2⟩ := tu_cells hblkC
                  have hpu := pm_pump stC hI.len r2 p.n hw.n0 hw.n1
                  rw [HS.out.1] at hpu
                  clear hof d0 d1 d2 keepC hblkB stB
                  go_upto_region 29 with ((go_at_call 41; (with_reducible refine hpu.mono ?_); rintro a wD ⟨rfl, stD, keepD⟩))
                  have stD : PmSt w wD _ room cap (pmPump S k0) (pmPump S k0) (fun k => k = o) := stD
                  have hI2 := hI.pump (n := k0) (fun _ => by have := HQ.out.2; omega)
                  clear hpu f0 f1 f2 keepD hblkC stC
                  obtain ⟨E1, E2, E3, E4, E5, E6⟩ := pm_len stD
                  have hLb2 : ((pmPump S k0)).L.flatten.length ≤ 36000 := by have := (hI2).tot; unfold Proofs.Ytbfipgeoecbpaaa.tot at this; omega
                  obtain ⟨e1, e2, e3, oq, ocq, m1⟩ := pm_ends stD (by omega) (by omega)
                  obtain ⟨UU, hUU⟩ : ∃ UU, UU = ((pmPump S k0)).L.flatten.length := ⟨_, rfl⟩
                  obtain ⟨LL, hLL⟩ : ∃ LL, LL = ((pmPump S k0)).l.length := ⟨_, rfl⟩
                  rw [← hUU] at e1 e2
                  rw [← hLL] at e3 m1
                  clear hUU hLL hLb2
                  go_upto_region 29 with fail
                  go_quiet (first | exact e1 _ | exact e2 _ | exact e3 _)
                  go_wp2_with fail
                  have stF := (stD.forget).below (kept_drewN _ nq)
                  obtain ⟨gg, rfl⟩ : ∃ gg, gk = gg + 1 := ⟨gk - 1, by omega⟩
                  go_roundg gg
                  case measure => omega
                  case rel => exact ⟨k + 1, (pmPump S k0), by go_num, by omega, stF, hI2, by omega⟩
                · have g3d : decide ((0 : Int) < Q) = false := decide_eq_false (by omega)
                  have hp0 : pumpN room S.l.length false p.n S.L.flatten.length = 0 := by
                    unfold pumpN
                    split
                    · rfl
                    · rename_i q
                      have q1 := HQ.out.1
                      have q2 := HQ.out.2
                      omega
                  have hpu := pm_pump st1 hI.len r2 p.n hw.n0 hw.n1
                  rw [hp0] at hpu
                  have eS : ({ S with L := (drn S.L 0 S.bg).1, bg := (drn S.L 0 S.bg).2, l := if 0 = 0 then S.l else S.l ++ [⟨(S.L.flatten.take 0).toArray⟩] } : Pm) = S := by rw [drn_zero]; rfl
                  rw [eS] at hpu
                  clear hp0 eS
                  go_upto_region 29 with (first | (go_at_call 45; (with_reducible refine hus.mono ?_); rintro a wU ⟨rfl, rfl⟩) | (go_at_call 41; (with_reducible refine hpu.mono ?_); rintro a wC ⟨rfl, stC, keepC⟩))
                  clear hpu c0 c1 c2
                  have hI2 := hI.up
                  obtain ⟨E1, E2, E3, E4, E5, E6⟩ := pm_len stC
                  have hLb2 : (S).L.flatten.length ≤ 36000 := by have := (hI2).tot; unfold Proofs.Ytbfipgeoecbpaaa.tot at this; omega
                  obtain ⟨e1, e2, e3, oq, ocq, m1⟩ := pm_ends stC (by omega) (by omega)
                  obtain ⟨UU, hUU⟩ : ∃ UU, UU = (S).L.flatten.length := ⟨_, rfl⟩
                  obtain ⟨LL, hLL⟩ : ∃ LL, LL = (S).l.length := ⟨_, rfl⟩
                  rw [← hUU] at e1 e2
                  rw [← hLL] at e3 m1
                  clear hUU hLL hLb2
                  go_upto_region 29 with fail
                  go_quiet (first | exact e1 _ | exact e2 _ | exact e3 _)
                  go_wp2_with fail
                  have stF := (stC.forget).below (kept_drewN _ nq)
                  obtain ⟨gg, rfl⟩ : ∃ gg, gk = gg + 1 := ⟨gk - 1, by omega⟩
                  go_roundg gg
                  case measure => omega
                  case rel => exact ⟨k + 1, S, by go_num, by omega, stF, hI2, by omega⟩
              · have g2d : decide (0 < p.n) = false := decide_eq_false g2
                have hp0 : pumpN room S.l.length false p.n S.L.flatten.length = 0 := by
                  unfold pumpN
                  split
                  · rfl
                  · rename_i q
                    have q1 := HQ.out.1
                    have q2 := HQ.out.2
                    omega
                have hpu := pm_pump st1 hI.len r2 p.n hw.n0 hw.n1
                rw [hp0] at hpu
                have eS : ({ S with L := (drn S.L 0 S.bg).1, bg := (drn S.L 0 S.bg).2, l := if 0 = 0 then S.l else S.l ++ [⟨(S.L.flatten.take 0).toArray⟩] } : Pm) = S := by rw [drn_zero]; rfl
                rw [eS] at hpu
                clear hp0 eS
                go_upto_region 29 with (first | (go_at_call 45; (with_reducible refine hus.mono ?_); rintro a wU ⟨rfl, rfl⟩) | (go_at_call 41; (with_reducible refine hpu.mono ?_); rintro a wC ⟨rfl, stC, keepC⟩))
                clear hpu c0 c1 c2
                have hI2 := hI.up
                obtain ⟨E1, E2, E3, E4, E5, E6⟩ := pm_len stC
                have hLb2 : (S).L.flatten.length ≤ 36000 := by have := (hI2).tot; unfold Proofs.Ytbfipgeoecbpaaa.tot at this; omega
                obtain ⟨e1, e2, e3, oq, ocq, m1⟩ := pm_ends stC (by omega) (by omega)
                obtain ⟨UU, hUU⟩ : ∃ UU, UU = (S).L.flatten.length := ⟨_, rfl⟩
                obtain ⟨LL, hLL⟩ : ∃ LL, LL = (S).l.length := ⟨_, rfl⟩
                rw [← hUU] at e1 e2
                rw [← hLL] at e3 m1
                clear hUU hLL hLb2
                go_upto_region 29 with fail
                go_quiet (first | exact e1 _ | exact e2 _ | exact e3 _)
                go_wp2_with fail
                have stF := (stC.forget).below (kept_drewN _ nq)
                obtain ⟨gg, rfl⟩ : ∃ gg, gk = gg + 1 := ⟨gk - 1, by omega⟩
                go_roundg gg
                case measure => omega
                case rel => exact ⟨k + 1, S, by go_num, by omega, stF, hI2, by omega⟩
            · have g1d : decide ((M : Int) < room) = false := decide_eq_false (by omega)
              have hp0 : pumpN room S.l.length false p.n S.L.flatten.length = 0 := by
                unfold pumpN
                split
                · rfl
                · rename_i q
                  have q1 := HQ.out.1
                  have q2 := HQ.out.2
                  omega
              have hpu := pm_pump st1 hI.len r2 p.n hw.n0 hw.n1
              rw [hp0] at hpu
              have eS : ({ S with L := (drn S.L 0 S.bg).1, bg := (drn S.L 0 S.bg).2, l := if 0 = 0 then S.l else S.l ++ [⟨(S.L.flatten.take 0).toArray⟩] } : Pm) = S := by rw [drn_zero]; rfl
              rw [eS] at hpu
              clear hp0 eS
              go_upto_region 29 with (first | (go_at_call 45; (with_reducible refine hus.mono ?_); rintro a wU ⟨rfl, rfl⟩) | (go_at_call 41; (with_reducible refine hpu.mono ?_); rintro a wC ⟨rfl, stC, keepC⟩))
              clear hpu c0 c1 c2
              have hI2 := hI.up
              obtain ⟨E1, E2, E3, E4, E5, E6⟩ := pm_len stC
              have hLb2 : (S).L.flatten.length ≤ 36000 := by have := (hI2).tot; unfold Proofs.Ytbfipgeoecbpaaa.tot at this; omega
              obtain ⟨e1, e2, e3, oq, ocq, m1⟩ := pm_ends stC (by omega) (by omega)
              obtain ⟨UU, hUU⟩ : ∃ UU, UU = (S).L.flatten.length := ⟨_, rfl⟩
              obtain ⟨LL, hLL⟩ : ∃ LL, LL = (S).l.length := ⟨_, rfl⟩
              rw [← hUU] at e1 e2
              rw [← hLL] at e3 m1
              clear hUU hLL hLb2
              go_upto_region 29 with fail
              go_quiet (first | exact e1 _ | exact e2 _ | exact e3 _)
              go_wp2_with fail
              have stF := (stC.forget).below (kept_drewN _ nq)
              obtain ⟨gg, rfl⟩ : ∃ gg, gk = gg + 1 := ⟨gk - 1, by omega⟩
              go_roundg gg
              case measure => omega
              case rel => exact ⟨k + 1, S, by go_num, by omega, stF, hI2, by omega⟩
          · have k2b : (p.k == 2) = false := by simp [k2]
            by_cases k3 : p.k = 3
            · have k3b : (p.k == 3) = true := by simp [k3]
              cases hl : S.l with
              | nil =>
                have hfe := pm_feed_none st1 hl
                go_upto_region 25 with ((go_at_call 48; (with_reducible refine hfe.mono ?_); rintro a wB ⟨rfl, stB, keepB⟩))
                have htk := pm_take_none stB hl
                go_upto_region 26 with ((go_at_call 49; (with_reducible refine htk.mono ?_); rintro a wU ⟨rfl, rfl⟩))
                obtain ⟨tc, tf, tl, tset⟩ := pm_T stB
                obtain ⟨TT, hTT⟩ : ∃ TT, TT = S.T := ⟨_, rfl⟩
                rw [← hTT] at tc
                have hTs : TT.size ≤ 36000 := by rw [hTT]; have := hI.tot; unfold Proofs.Ytbfipgeoecbpaaa.tot at this; omega
                have hz1 : TT.size + 0 ≤ maxLen := by unfold maxLen; omega
                have hz2 : (TT.size : Int) ≤ 9223372036854775807 := by omega
                have HT := Lib.hid hTT
                clear hTT hfe htk c0 c1 c2 hl keepB
                go_upto_region 27 with fail
                obtain ⟨stT, _, _⟩ := tset (TT ++ ⟨#[]⟩)
                have stT : PmSt w (wB.setCell ⟨w5.heap.size + 1 + 1, 0, none⟩ (.string (TT ++ ⟨#[]⟩))) ⟨w1.heap.size + 1, bp, c, w4.heap.size, w3.heap.size, w5.heap.size, w5.heap.size + 1, w5.heap.size + 2⟩ room cap S { S with T := TT ++ ⟨#[]⟩ } (fun k => k = o) := stT
                have eT : TT ++ ⟨#[]⟩ = S.T := by rw [HT.out]; exact ba_eqR (by simp)
                clear tc tf tl tset
                generalize wB.setCell ⟨w5.heap.size + 1 + 1, 0, none⟩ (.string (TT ++ ⟨#[]⟩)) = wT at *
                rw [eT] at stT
                have stT : PmSt w wT ⟨w1.heap.size + 1, bp, c, w4.heap.size, w3.heap.size, w5.heap.size, w5.heap.size + 1, w5.heap.size + 2⟩ room cap S S (fun k => k = o) := stT
                have hgo := pm_go_fix stT L5 L6 hI.fix (by rw [← HT.out]; omega)
                clear eT
                go_upto_region 29 with (first | (go_at_call 51; (refine hgo.mono ?_); rintro a wG ⟨ao9, cp9, rfl, i2, stG⟩; have hsame := rsame9_any (l := []) (m := []) (ItIn.nil wG 0) i2 rfl (Nat.zero_le _) (fun x hx => by cases hx); clear hgo i2) | (go_at_call 50; (refine hsame.mono ?_); rintro a wS ⟨rfl, ⟨nq0, rfl⟩⟩; clear hsame))
                have stG : PmSt w wG ⟨w1.heap.size + 1, bp, c, w4.heap.size, w3.heap.size, w5.heap.size, w5.heap.size + 1, w5.heap.size + 2⟩ room cap S S (fun k => k = o) := stG
                have stE := stG.below (kept_drewN wG nq0)
                generalize wG.drewN nq0 = wE at *
                have hI2 := hI.up
                obtain ⟨E1, E2, E3, E4, E5, E6⟩ := pm_len stE
                have hLb2 : (S).L.flatten.length ≤ 36000 := by have := (hI2).tot; unfold Proofs.Ytbfipgeoecbpaaa.tot at this; omega
                obtain ⟨e1, e2, e3, oq, ocq, m1⟩ := pm_ends stE (by omega) (by omega)
                obtain ⟨UU, hUU⟩ : ∃ UU, UU = (S).L.flatten.length := ⟨_, rfl⟩
                obtain ⟨LL, hLL⟩ : ∃ LL, LL = (S).l.length := ⟨_, rfl⟩
                rw [← hUU] at e1 e2
                rw [← hLL] at e3 m1
                clear hUU hLL hLb2
                go_upto_region 29 with fail
                go_quiet (first | exact e1 _ | exact e2 _ | exact e3 _)
                go_wp2_with fail
                have stF := (stE.forget).below (kept_drewN _ nq)
                obtain ⟨gg, rfl⟩ : ∃ gg, gk = gg + 1 := ⟨gk - 1, by omega⟩
                go_roundg gg
                case measure => omega
                case rel => exact ⟨k + 1, S, by go_num, by omega, stF, hI2, by omega⟩
              | cons x t =>
                have h64 : S.l.length ≤ 64 := by have := hI.len; omega
                have htot := hI.tot
                unfold Proofs.Ytbfipgeoecbpaaa.tot at htot
                rw [hl, List.map_cons, List.sum_cons] at htot
                have hTx : S.T.size + x.size ≤ 36000 := by omega
                have hI2 := hI.feed hl L5.p
                have hfe := pm_feed_some st1 hl (by omega)
                have hl0 := hl
                have HL := Lib.hid hl0
                clear hl0 htot
                go_upto_region 25 with ((go_at_call 48; (with_reducible refine hfe.mono ?_); rintro a wB ⟨ao1, cp1, its1, rfl, i1, i2, stB, keepB⟩))
                have htk := pm_take_some stB hl h64
                clear hl hfe
                go_upto_region 26 with ((go_at_call 49; (with_reducible refine htk.mono ?_); rintro a wC ⟨rfl, stC, keepC, _⟩))
                obtain ⟨tc, tf, tl, tset⟩ := pm_T stC
                obtain ⟨TT, hTT⟩ : ∃ TT, TT = S.T := ⟨_, rfl⟩
                have tc : wC.cell? ⟨w5.heap.size + 2, 0, none⟩ = some (.string TT) := by rw [hTT]; exact tc
                have hz1 : TT.size + x.size ≤ maxLen := by rw [hTT]; unfold maxLen; omega
                have hz2 : ((TT.size : Int) + x.size) ≤ 9223372036854775807 := by rw [hTT]; omega
                have HT := Lib.hid (And.intro hTT (And.intro i1 (And.intro i2 (And.intro keepC hI2))))
                have hsc := stC
                clear hTT htk c0 c1 c2 keepB i2 i1 hI2
                go_upto_region 27 with fail
                obtain ⟨stT, keepT, _⟩ := tset (TT ++ x)
                have stT : PmSt w (wC.setCell ⟨w5.heap.size + 1 + 1, 0, none⟩ (.string (TT ++ x))) ⟨w1.heap.size + 1, bp, c, w4.heap.size, w3.heap.size, w5.heap.size, w5.heap.size + 1, w5.heap.size + 2⟩ room cap (pmFeed S x t) { S with l := t, T := TT ++ x } (newP (fun k => k = o) wA wB) := stT
                have i4 : ∀ g og, wA.heap.size ≤ g → g < wB.heap.size → wB.heap[g]? = some og → (wC.setCell ⟨w5.heap.size + 1 + 1, 0, none⟩ (.string (TT ++ x))).heap[g]? = some og := fun g og h1 h2 hh => keepT g og (.inr ⟨h1, h2⟩) (HT.out.2.2.2.1 g og (.inr ⟨h1, h2⟩) hh)
                have eT : TT = S.T := HT.out.1
                subst eT
                clear tc tf tl tset keepT hsc
                generalize wC.setCell ⟨w5.heap.size + 1 + 1, 0, none⟩ (.string (S.T ++ x)) = wT at *
                have hgo := pm_go stT ⟨Nat.le_trans L5.p (by show S.T.size ≤ (S.T ++ x).size; rw [ByteArray.size_append]; omega), L5.nx, L5.lo⟩ L6 (by show (S.T ++ x).size ≤ _; rw [ByteArray.size_append]; omega)
                obtain ⟨z1, z2, z3, z4, hI2⟩ := HT.out
                clear HT z1 z4
                have hok : ItsOkP (hfin (S.T ++ x) false S.hs) := itsOkP_fin ⟨Nat.zero_le _, fun x hx => by cases hx⟩
                have hpz : (hfin (S.T ++ x) false S.hs).p ≤ (S.T ++ x).size := (pm_len stT).2.2.2.2.1.p
                rw [ByteArray.size_append] at hpz
                have hn1 : its1.length ≤ 1000000 := by
                  have e := congrArg List.length z2
                  rw [List.length_map] at e
                  have := hok.1
                  omega
                have hn2 : ∀ y ∈ its1, y.evs.length ≤ 1000000 := fun y hy => by
                  have : Itm.p y ∈ (hfin (S.T ++ x) false S.hs).its := by rw [← z2]; exact List.mem_map_of_mem hy
                  exact Nat.le_trans (hok.2 _ this) (by decide)
                have HZ := Lib.hid (And.intro z2 (And.intro hn1 (And.intro hn2 (And.intro z3 i4))))
                clear hok hpz z2 hn1 hn2 z3 i4
                go_upto_region 29 with (first | (go_at_call 51; (refine hgo.mono ?_); rintro a wG ⟨ao9, cp9, its, rfl, j1, j2, stG, keepG, _⟩; have hsame := rsame9_any (HZ.out.2.2.2.1.keep fun g og h1 h2 hh => keepG g og (.inr ⟨h1, h2⟩) (HZ.out.2.2.2.2 g og h1 h2 hh)) j2 (HZ.out.1.trans j1.symm) HZ.out.2.1 HZ.out.2.2.1; clear hgo j1 j2 keepG) | (go_at_call 50; (refine hsame.mono ?_); rintro a wS ⟨rfl, ⟨nq0, rfl⟩⟩; clear hsame))
                clear HZ
                have stG : PmSt w wG ⟨w1.heap.size + 1, bp, c, w4.heap.size, w3.heap.size, w5.heap.size, w5.heap.size + 1, w5.heap.size + 2⟩ room cap (pmFeed S x t) (pmFeed S x t) (newP (fun k => k = o) wA wB) := stG
                have stE := stG.below (kept_drewN wG nq0)
                generalize wG.drewN nq0 = wE at *
                obtain ⟨E1, E2, E3, E4, E5, E6⟩ := pm_len stE
                have hLb2 : (pmFeed S x t).L.flatten.length ≤ 36000 := by have := (hI2).tot; unfold Proofs.Ytbfipgeoecbpaaa.tot at this; omega
                obtain ⟨e1, e2, e3, oq, ocq, m1⟩ := pm_ends stE (by omega) (by omega)
                obtain ⟨UU, hUU⟩ : ∃ UU, UU = (pmFeed S x t).L.flatten.length := ⟨_, rfl⟩
                obtain ⟨LL, hLL⟩ : ∃ LL, LL = (pmFeed S x t).l.length := ⟨_, rfl⟩
                rw [← hUU] at e1 e2
                rw [← hLL] at e3 m1
                clear hUU hLL hLb2
                go_upto_region 29 with fail
                go_quiet (first | exact e1 _ | exact e2 _ | exact e3 _)
                go_wp2_with fail
                have stF := (stE.forget).below (kept_drewN _ nq)
                obtain ⟨gg, rfl⟩ : ∃ gg, gk = gg + 1 := ⟨gk - 1, by omega⟩
                go_roundg gg
                case measure => omega
                case rel => exact ⟨k + 1, (pmFeed S x t), by go_num, by omega, stF, hI2, by omega⟩
            · have k3b : (p.k == 3) = false := by simp [k3]
              obtain ⟨E1, E2, E3, E4, E5, E6⟩ := pm_len st1
              have hLb2 : (S).L.flatten.length ≤ 36000 := by have := (hI.up).tot; unfold Proofs.Ytbfipgeoecbpaaa.tot at this; omega
              obtain ⟨e1, e2, e3, oq, ocq, m1⟩ := pm_ends st1 (by omega) (by omega)
              obtain ⟨UU, hUU⟩ : ∃ UU, UU = (S).L.flatten.length := ⟨_, rfl⟩
              obtain ⟨LL, hLL⟩ : ∃ LL, LL = (S).l.length := ⟨_, rfl⟩
              rw [← hUU] at e1 e2
              rw [← hLL] at e3 m1
              clear hUU hLL hLb2
              go_upto_region 29 with fail
              go_quiet (first | exact e1 _ | exact e2 _ | exact e3 _)
              go_wp2_with fail
              have stF := (st1.forget).below (kept_drewN _ nq)
              obtain ⟨gg, rfl⟩ : ∃ gg, gk = gg + 1 := ⟨gk - 1, by omega⟩
              go_roundg gg
              case measure => omega
              case rel => exact ⟨k + 1, S, by go_num, by omega, stF, hI.up, by omega⟩
      · have hlt' : ¬ (k : Int) < len := by omega
        obtain ⟨κ0, A0, U0, V0, b0⟩ := st.b
        have hbel := b0.bel
        clear b0
        go_wp2_with fail
        go_ret
        exact ⟨rfl, hbel⟩
  · have hd : decide ((200 : Int) < len) = true := by simp; omega
    go_wp2_with fail
    refine (awake24 _).mono ?_
    rintro a w4 ⟨rfl, hk4⟩
    go_wp2_with fail
    go_ret
    exact ⟨rfl, k13.trans (hk4.mono k13.size)⟩
theorem pipePumps_law (n0 c0 : Int) (oa : Option Addr) (len cp : Nat) (z : Nat → TuR) (w : World) (_h0 : (Lit.int .i64 n0).wf = true) (_h1 : (Lit.int .i64 c0).wf = true) (hs : SlArgN w oa len cp 3 (fun i j => (z i).f j)) (_hr : cp * 32 ≤ 140737488351232) (hx : ∀ i, i < len → (z i).Wf) :
    Calls Try.prog 10 #[.int .i64 n0, .int .i64 c0, .slice oa len cp] w fun e w' => e = .returned (.bool true) ∧ Below w.heap.size w w' := by
  by_cases h0 : n0 < 1 ∨ 64 < n0
  · by_cases h1 : c0 < 179 ∨ 1048576 < c0
    · go_enter Try.func10, Try.ntmps10
      go_wp2_with fail
      refine (new_bad _ h0 _).mono ?_
      rintro a w1 ⟨rfl, rfl⟩
      go_wp2_with fail
      refine (qnew_badP _ _ h1 _).mono ?_
      rintro a w1 ⟨rfl, rfl⟩
      go_wp2_with fail
      refine (awake24 _).mono ?_
      rintro a w3 ⟨rfl, hk3⟩
      go_wp2_with fail
      refine (awake24 _).mono ?_
      rintro a w4 ⟨rfl, hk4⟩
      go_wp2_with fail
      go_ret
      exact ⟨rfl, hk3.trans (hk4.mono hk3.size)⟩
    · obtain ⟨cn, rfl⟩ : ∃ cn : Nat, c0 = cn := ⟨c0.toNat, by omega⟩
      go_enter Try.func10, Try.ntmps10
      go_wp2_with fail
      refine (new_bad _ h0 _).mono ?_
      rintro a w1 ⟨rfl, rfl⟩
      go_wp2_with fail
      refine (qnew_any cn 0 (.inl rfl) (by omega) (by omega) _).mono ?_
      rintro a w2 ⟨rfl, _, hk2⟩
      go_wp2_with fail
      refine (awake24 _).mono ?_
      rintro a w3 ⟨rfl, hk3⟩
      have k3 := hk2.trans (hk3.mono hk2.size)
      go_wp2_with fail
      refine (awake24 _).mono ?_
      rintro a w4 ⟨rfl, hk4⟩
      go_wp2_with fail
      go_ret
      exact ⟨rfl, k3.trans (hk4.mono k3.size)⟩
  · obtain ⟨rn, rfl⟩ : ∃ rn : Nat, n0 = rn := ⟨n0.toNat, by omega⟩
    by_cases h1 : c0 < 179 ∨ 1048576 < c0
    · go_enter Try.func10, Try.ntmps10
      go_wp2_with fail
      refine (pnew_any rn (by omega) (by omega) _).mono ?_
      rintro a w1 ⟨bp, c, rfl, hP, hb, hc, hk1⟩
      go_wp2_with fail
      refine (qnew_badP _ _ h1 _).mono ?_
      rintro a w1' ⟨rfl, rfl⟩
      go_wp2_with fail
      refine (awake24 _).mono ?_
      rintro a w3 ⟨rfl, hk3⟩
      have k3 := hk1.trans (hk3.mono hk1.size)
      go_wp2_with fail
      refine (awake24 _).mono ?_
      rintro a w4 ⟨rfl, hk4⟩
      go_wp2_with fail
      go_ret
      exact ⟨rfl, k3.trans (hk4.mono k3.size)⟩
    · obtain ⟨cn, rfl⟩ : ∃ cn : Nat, c0 = cn := ⟨c0.toNat, by omega⟩
      exact pipePumps_main rn cn (by omega) (by omega) (by omega) (by omega) oa len cp z w hs hx
end Go.Proofs.Ytbfipgeoecbpaaa
