/- Contract of the reference's Parse. No condition but those that it names. -/
import Derived.Test.YtokjkfbbejalhaaDoorTw
import Derived.Test.YtokjkfbbejalhaaDoorTm
import Derived.Test.YtokjkfbbejalhaaDoorTu
import Derived.Test.YtokjkfbbejalhaaDoorTq
import Derived.Test.YtokjkfbbejalhaaDoorEvT
namespace Go.Proofs.YtokjkfbbejalhaaDoor
open Go Go.RowKit
set_option linter.unusedVariables false
set_option linter.unusedSimpArgs false
set_option maxRecDepth 20000
theorem words_of {w wr : World} {v : Value} {W : List (List UInt8)} (h : WdS w v W wr) (hp : 1 ≤ W.length) : ∃ g cap, v = .slice (some ⟨g, 0, none⟩) W.length cap ∧ W.length ≤ cap ∧ w.heap.size ≤ g ∧ g < wr.heap.size ∧ WsIn wr g W := by
  obtain ⟨hb, hl, h⟩ := h
  rcases h with ⟨_, h0⟩ | ⟨g, cap, cur, rfl, hg, hh, hc, hm, hs, ht⟩
  · omega
  · refine ⟨g, cap, rfl, hc, hg, blk_lt hh, cur, true, hh, rfl, fun i hi => ?_⟩
    rw [Nat.mul_one] at hs ht
    have := congrArg (·[i]?) ht
    simp only [List.getElem?_take] at this
    rw [if_pos hi] at this
    rw [← Array.getElem?_toList, this]
    unfold wv wsB
    rw [List.getElem?_map, List.getD_eq_getElem?_getD, List.getElem?_eq_getElem hi]
    rfl
/-- An event in memory. -/
def EvAt (w : World) (x : Nat) (e : Ev) : Prop := w.heap[x]? = some (.cells e.cells.toArray 25 (0, 0))
theorem EvAt.on {w w' : World} {x : Nat} {e : Ev} (h : EvAt w x e) (k : Below w.heap.size w w') : EvAt w' x e := (k.block _ (blk_lt h)).trans h
theorem EvAt.fz {w : World} {x : Nat} {e : Ev} (h : EvAt w x e) (i : Nat) : w.frozen? ⟨x, i, none⟩ = false := frozen_blk h i
theorem EvAt.k {w : World} {x : Nat} {e : Ev} (h : EvAt w x e) (n : Int) : EvAt (w.setCell ⟨x, 0, none⟩ (.int .i64 n)) x { e with k := n } := (blk_setCell (i := 0) h (.int .i64 n)).trans rfl
theorem EvAt.cy {w : World} {x : Nat} {e : Ev} (h : EvAt w x e) (n : Nat) : EvAt (w.setCell ⟨x, 1, none⟩ (.int .u64 n)) x { e with cy := n } := (blk_setCell (i := 1) h (.int .u64 n)).trans rfl
theorem EvAt.ct {w : World} {x : Nat} {e : Ev} (h : EvAt w x e) (n : Nat) : EvAt (w.setCell ⟨x, 2, none⟩ (.int .u64 n)) x { e with ct := n } := (blk_setCell (i := 2) h (.int .u64 n)).trans rfl
theorem EvAt.a {w : World} {x : Nat} {e : Ev} (h : EvAt w x e) (n : Nat) : EvAt (w.setCell ⟨x, 3, none⟩ (.int .u32 n)) x { e with a := n } := (blk_setCell (i := 3) h (.int .u32 n)).trans rfl
theorem EvAt.b {w : World} {x : Nat} {e : Ev} (h : EvAt w x e) (n : Nat) : EvAt (w.setCell ⟨x, 4, none⟩ (.int .u32 n)) x { e with b := n } := (blk_setCell (i := 4) h (.int .u32 n)).trans rfl
theorem EvAt.v {w : World} {x : Nat} {e : Ev} (h : EvAt w x e) (n : Nat) : EvAt (w.setCell ⟨x, 5, none⟩ (.int .u32 n)) x { e with v := n } := (blk_setCell (i := 5) h (.int .u32 n)).trans rfl
/-- Where the reference's Parse stands: the result in r, the words in g, the event in x. -/
structure RP (w : World) (r g x : Nat) (W : List (List UInt8)) (e : Ev) (wr : World) : Prop where
  bel : Below w.heap.size w wr
  rz : Rz wr r
  ws : WsIn wr g W
  ev : EvAt wr x e
theorem RP.on {w : World} {r g x : Nat} {W : List (List UInt8)} {e : Ev} {w1 w2 : World} (s : RP w r g x W e w1) (k : Below w1.heap.size w1 w2) : RP w r g x W e w2 :=
  ⟨bel_next s.bel k, s.rz.on k, s.ws.on k, s.ev.on k⟩
/-- A store into the event. -/
theorem RP.st {w : World} {r g x : Nat} {W : List (List UInt8)} {e e' : Ev} {w1 : World} (s : RP w r g x W e w1) (hrx : r < x) (hgx : g < x) (hwx : w.heap.size ≤ x) (i : Nat) (v : Value) (h : EvAt (w1.setCell ⟨x, i, none⟩ v) x e') : RP w r g x W e' (w1.setCell ⟨x, i, none⟩ v) := by
  have hx : x < w1.heap.size := blk_lt s.ev
  have hb : Below x w1 (w1.setCell ⟨x, i, none⟩ v) := ((Below.refl w1.heap.size w1).mono (Nat.le_of_lt hx)).setCell (Nat.le_refl _) _
  refine ⟨s.bel.setCell hwx _, (hb.block _ hrx).trans s.rz, ?_, h⟩
  obtain ⟨cs, fz, a1, a2, a3⟩ := s.ws
  exact ⟨cs, fz, (hb.block _ hgx).trans a1, a2, a3⟩
/-- How many of a kind's first numbers it has. -/
def cf (k : Int) : Nat → Nat
  | 0 => 0
  | i + 1 => cf k i + if hasN k i then 1 else 0
theorem cf_le (k : Int) (i : Nat) : ∀ j, cf k i ≤ cf k (i + j)
  | 0 => Nat.le_refl _
  | j + 1 => Nat.le_trans (cf_le k i j) (by show cf k (i + j) ≤ cf k (i + j) + _; omega)
theorem cf_lim (k : Int) : ∀ i, cf k i ≤ i
  | 0 => Nat.le_refl _
  | i + 1 => by
    have := cf_lim k i
    unfold cf
    split <;> omega
theorem tk_len {h : Bool} {r t : List (List UInt8)} {n : Nat} (e : tk h r = some (n, t)) : r.length = (if h then 1 else 0) + t.length := by
  cases h
  · have e : some (0, r) = some (n, t) := e
    cases e
    simp
  · cases r with
    | nil => cases e
    | cons x u =>
      have e : (numP 32 x).map (fun n => (n, u)) = some (n, t) := e
      obtain ⟨m, hm, he⟩ := Option.map_eq_some_iff.1 e
      cases he
      simp
      omega
theorem tkN_len {k : Int} {r : List (List UInt8)} : ∀ (i : Nat) {f : Nat → Nat} {t : List (List UInt8)}, tkN k r i = some (f, t) → r.length = cf k i + t.length
  | 0, f, t, h => by
    have h : some (fun _ => 0, r) = some (f, t) := h
    cases h
    simp [cf]
  | i + 1, f, t, h => by
    have h : (tkN k r i).bind _ = some (f, t) := h
    obtain ⟨⟨f1, t1⟩, h1, h2⟩ := Option.bind_eq_some_iff.1 h
    obtain ⟨⟨n, t2⟩, h3, h4⟩ := Option.map_eq_some_iff.1 h2
    cases h4
    have e1 := tkN_len i h1
    have e2 := tk_len h3
    rw [e1, e2, cf]
    simp only
    omega
theorem prsE_len {W : List (List UInt8)} {K : Nat} (hK : K = kd (wsB W 2)) (h : W.length ≠ 3 + cf K 3) : prsE W = none := by
  unfold prsE
  split
  · rfl
  · rename_i hl
    split
    · rename_i ct cy f q0 q1 q2
      rw [show kd ⟨(W.getD 2 []).toArray⟩ = K from hK.symm] at q2 ⊢
      rw [if_pos]
      by_cases hr : f.2 = []
      · exfalso
        have := tkN_len (f := f.1) (t := f.2) 3 q2
        rw [hr, List.length_drop] at this
        simp at this
        omega
      · exact Or.inr hr
    · rfl
theorem prsE_num {W : List (List UInt8)} (h : numP 64 (W.getD 0 []) = none ∨ numP 64 (W.getD 1 []) = none ∨ kd (wsB W 2) = 0) : prsE W = none := by
  unfold prsE
  split
  · rfl
  · split
    · rename_i ct cy f q0 q1 q2
      rcases h with h | h | h
      · rw [h] at q0; cases q0
      · rw [h] at q1; cases q1
      · exact if_pos (Or.inl h)
    · rfl
theorem rnum_w (W : List (List UInt8)) (i B M : Nat) (h9 : 9 ≤ M) (hM : M < 18446744073709551616) (hBM : M = 2 ^ B - 1) (hB : 4 ≤ B) (hB2 : B ≤ 64) (b : Bool) (hb : (numP B (W.getD i [])).isSome = b) (hs : (wsB W i).size ≤ 100000) (w : World) :
    Calls Tryd.prog 33 #[.string (wsB W i), .int .u64 M] w fun e w' => ∃ n : Nat, e = .returned (.tuple #[.int .u64 n, .bool b]) ∧ Hid ((∀ u, numP B (W.getD i []) = some u → n = u) ∧ n < 18446744073709551616) ∧ w = w' := by
  refine (rnumber_any (wsB W i) hs M h9 hM w).mono ?_
  rintro e w' ⟨n, rfl, h1, h2, h3⟩
  have e1 : (wsB W i).data.toList = W.getD i [] := rfl
  rw [e1, hBM, ← numP_eq hB hB2] at h1 ⊢
  rw [hb]
  exact ⟨n, rfl, Lib.hid ⟨h1, h2⟩, h3⟩
set_option maxHeartbeats 4000000 in
theorem rparse_any (s : ByteArray) (hs : s.size ≤ 1000) (w : World) : Calls Tryd.prog 18 #[.string s] w (ParsePost s.data.toList w) := by
  have hz0 : Rz (w.alloc (.cells #[.int .i64 0, .int .u64 0, .int .u64 0, .int .u32 0, .int .u32 0, .int .u32 0] 25)) w.heap.size := heap_alloc_new w _
  have hB0 := (Below.refl w.heap.size w).alloc (Nat.le_refl _) (.cells #[.int .i64 0, .int .u64 0, .int .u64 0, .int .u32 0, .int .u32 0, .int .u32 0] 25)
  have hsz := wsB_size s.data.toList
  have hpos := wds_pos s.data.toList
  have hle := wds_le s.data.toList
  have hPE := @prs_err s.data.toList
  have hlen : s.data.toList.length ≤ 1000 := by simpa using hs
  have hsp := fun x => rwords_any s (by omega) x
  obtain ⟨W, hW⟩ : ∃ W, W = wds s.data.toList := ⟨_, rfl⟩
  rw [← hW] at hsz hpos hle hPE hsp
  have HW := Lib.hid hW
  have HPE := Lib.hid hPE
  clear hW hPE
  go_enter Tryd.func18, Tryd.ntmps18
  go_wp2_with fail
  generalize w.alloc (.cells #[.int .i64 0, .int .u64 0, .int .u64 0, .int .u32 0, .int .u32 0, .int .u32 0] 25) = w1 at hz0 hB0 ⊢
  obtain ⟨r, hr⟩ : ∃ r, r = w.heap.size := ⟨_, rfl⟩
  rw [← hr] at hz0 ⊢
  have hwr : w.heap.size ≤ r := by omega
  clear hr
  refine (hsp _).mono ?_
  rintro x w2 ⟨v, rfl, hwd⟩
  obtain ⟨g, cap, rfl, hcap, hwg, hgl, hws⟩ := words_of hwd hpos
  have hk := hwd.bel
  have hz := hz0.on hk
  have hB := bel_next hB0 hk
  have hrg := blk_lt hz0
  have hrg : r < g := by omega
  clear hz0 hB0 hk hsp hwd hwg
  obtain ⟨n, hn⟩ : ∃ n, n = W.length := ⟨_, rfl⟩
  rw [← hn] at hpos hle hcap ⊢
  have HN := Lib.hid hn
  clear hn
  obtain ⟨⟨y0, y1, y2, y3, y4, y5⟩, f0, f1, f2, f3, f4, f5⟩ := hz.cells
  by_cases h3 : n < 3
  · have h3i : (n : Int) < 3 := by omega
    go_wp2_with fail
    refine bodyPost_ret (v := .tuple #[.agg #[.int .i64 0, .int .u64 0, .int .u64 0, .int .u32 0, .int .u32 0, .int .u32 0], .int .i64 3]) (by simp [results, Tryd.results18, go_sem, y0, y1, y2, y3, y4, y5]) rfl (HPE.out (by unfold prsE; rw [if_pos (by rw [← HN.out]; exact h3)]) ?_)
    exact ((((((hB.setCell hwr _).setCell hwr _).setCell hwr _).setCell hwr _).setCell hwr _).setCell hwr _)
  · have h3i : (3 : Int) ≤ n := by omega
    have hl0 : (0 : Int) < n := by omega
    have hl1 : (1 : Int) < n := by omega
    have hl2 : (2 : Int) < n := by omega
    have hE : EvAt (w2.alloc (.cells #[.int .i64 0, .int .u64 0, .int .u64 0, .int .u32 0, .int .u32 0, .int .u32 0] 25)) w2.heap.size ⟨((rkF (wsB W 2) 0 : Nat) : Int), 0, 0, 0, 0, 0⟩ := heap_alloc_new w2 _
    have hk2 := (Below.refl w2.heap.size w2).alloc (Nat.le_refl _) (.cells #[.int .i64 0, .int .u64 0, .int .u64 0, .int .u32 0, .int .u32 0, .int .u32 0] 25)
    clear y0 y1 y2 y3 y4 y5 f0 f1 f2 f3 f4 f5
    go_upto_region 5 with fail
    generalize w2.alloc (.cells #[.int .i64 0, .int .u64 0, .int .u64 0, .int .u32 0, .int .u32 0, .int .u32 0] 25) = w3 at hE hk2 ⊢
    have st : RP w r g w2.heap.size W _ w3 := ⟨bel_next hB hk2, hz.on hk2, hws.on hk2, hE⟩
    have hwx : w.heap.size ≤ w2.heap.size := hB.size
    generalize w2.heap.size = x at st hgl hwx ⊢
    have hgx : g < x := hgl
    have hrx : r < x := by omega
    clear hE hk2 hz hws hB hgl
    go_upto_block 0 with fail
    go_wp2_with fail
    go_loopw [6] (fun u wr => ∃ k : Nat, u = .int .i64 k ∧ 1 ≤ k ∧ k ≤ 25 ∧ RP w r g x W ⟨((rkF (wsB W 2) (k - 1) : Nat) : Int), 0, 0, 0, 0, 0⟩ wr) (fun u _ => 25 - (intOf u).toNat)
    case atStart => exact ⟨1, rfl, Nat.le_refl _, by decide, st⟩
    case round =>
      obtain ⟨k, rfl, h1, h25, st⟩ := hrel
      by_cases hle : k ≤ 24
      · have hleI : (k : Int) ≤ 24 := by omega
        have hk0 : (0 : Int) ≤ k := by omega
        have hk25 : (k : Int) < 25 := by omega
        have hws := st.ws
        have hw2 := (hws.on ((Below.refl wr.heap.size wr).drew)).cell (i := 2) (by rw [← HN.out]; omega)
        have hkk := (Below.refl wr.heap.size wr).drew
        go_upto_region 8 with fail
        go_cut [37] (fun u wx => u = .bool ((nm k).toList == (wsB W 2).toList) ∧ Below wr.heap.size wr wx)
        case first =>
          refine wp_region_held_drew (S := fun w' => w'.cell? ⟨g, 2, none⟩ = some (.string (wsB W 2))) (by kernel_rfl) hw2 (fun hHeld => ?_)
          refine wpAnyH_take (i := 1) (v := ?_) rfl (by kernel_rfl) (by kernel_rfl) (by kernel_rfl) (fun _ _ _ h => h) (Or.inl ⟨by rfl, ?_⟩) (by assumption) ?_
          rotate_left
          · intro w hSw
            try dsimp only at hSw
            go_simp
            try with_reducible rfl
          try simp only [Act.put, List.setIfInBounds_toArray, List.set_cons_zero, List.set_cons_succ]
          refine wpAnyH_take (i := 4) (v := ?_) rfl (by kernel_rfl) (by kernel_rfl) (by kernel_rfl) (fun _ _ _ h => h) (Or.inl ⟨by rfl, ?_⟩) (by assumption) ?_
          rotate_left
          · intro w hSw
            try dsimp only at hSw
            go_simp
            try with_reducible rfl
          try simp only [Act.put, List.setIfInBounds_toArray, List.set_cons_zero, List.set_cons_succ]
          refine wpAnyH_take (i := 5) (v := ?_) rfl (by kernel_rfl) (by kernel_rfl) (by kernel_rfl) (fun _ _ _ h => h) (Or.inl ⟨by rfl, ?_⟩) (by assumption) ?_
          rotate_left
          · intro w hSw
            try dsimp only at hSw
            go_simp
            try with_reducible rfl
          try simp only [Act.put, List.setIfInBounds_toArray, List.set_cons_zero, List.set_cons_succ]
          refine wpAnyH_take (i := 6) (v := ?_) rfl (by kernel_rfl) (by kernel_rfl) (by kernel_rfl) (fun _ _ _ h => h) (Or.inl ⟨by rfl, ?_⟩) (by assumption) ?_
          rotate_left
          · intro w hSw
            try dsimp only at hSw
            go_simp
            try with_reducible rfl
          try simp only [Act.put, List.setIfInBounds_toArray, List.set_cons_zero, List.set_cons_succ]
          refine wpAnyH_ready (rs := [0]) (by kernel_rfl) (by simp) ?_
          refine AllReadyH.cons rfl (fun K hK => ?_) AllReadyH.nil
          go_simp
          refine (rnames_any _).mono ?_
          rintro y wC ⟨rfl, hnC, hkC, hltC⟩
          have hkW := bel_next hkk hkC
          have hnc : wC.cell? ⟨wr.heap.size, k, none⟩ = some (.string (nm k)) := hnC.cell (k := k) h1 hle
          have hwc := (hws.on hkW).cell (i := 2) (by rw [← HN.out]; omega)
          refine hK.out _ _ (hwc) (fun hHeld => ?_)
          clear hK K
          try simp only [Act.put, List.setIfInBounds_toArray, List.set_cons_zero, List.set_cons_succ]
          refine wpAnyH_take (i := 2) (v := ?_) rfl (by kernel_rfl) (by kernel_rfl) (by kernel_rfl) (fun _ _ _ h => h) (Or.inl ⟨by rfl, ?_⟩) (by assumption) ?_
          rotate_left
          · intro w hSw
            try dsimp only at hSw
            go_simp
            try with_reducible rfl
          try simp only [Act.put, List.setIfInBounds_toArray, List.set_cons_zero, List.set_cons_succ]
          refine wpAnyH_ready (rs := [3]) (by kernel_rfl) (by simp) ?_
          refine AllReadyH.cons rfl (fun K hK => ?_) AllReadyH.nil
          go_simp
          refine hK.out _ _ (hwc) (fun hHeld => ?_)
          clear hK K
          try simp only [Act.put, List.setIfInBounds_toArray, List.set_cons_zero, List.set_cons_succ]
          refine wpAnyH_take (i := 7) (v := ?_) rfl (by kernel_rfl) (by kernel_rfl) (by kernel_rfl) (fun _ _ _ h => h) (Or.inl ⟨by rfl, ?_⟩) (by assumption) ?_
          rotate_left
          · intro w hSw
            try dsimp only at hSw
            go_simp
            try with_reducible rfl
          try simp only [Act.put, List.setIfInBounds_toArray, List.set_cons_zero, List.set_cons_succ]
          refine wpAnyH_done (by kernel_rfl) ?_ _
          simp only [Act.put, List.setIfInBounds_toArray, List.set_cons_zero, List.set_cons_succ, List.getElem_toArray, List.getElem_cons_succ, List.getElem_cons_zero]
          go_wp2_with fail
          go_meet
          exact ⟨rfl, hkW⟩
        case rest =>
          obtain ⟨rfl, hkx⟩ := hcut
          have st2 := st.on hkx
          have HST := Lib.hid (show rkF (wsB W 2) k = if nm k = wsB W 2 then k else rkF (wsB W 2) (k - 1) by
            obtain ⟨j, rfl⟩ : ∃ j, k = j + 1 := ⟨k - 1, by omega⟩
            rfl)
          clear st hws hw2 hkk hkx
          by_cases hn : nm k = wsB W 2
          · rw [ba_eq hn]
            have HR := Lib.hid (show rkF (wsB W 2) k = k by rw [HST.out, if_pos hn])
            clear hn HST
            have ec := ev_cells st2.ev
            have hfz := st2.ev.fz 0
            simp only at ec
            have st3 := st2.st hrx hgx hwx 0 (.int .i64 k) (st2.ev.k k)
            simp only at st3
            clear st2
            go_wp2_with fail
            go_roundw
            case rel => exact ⟨k + 1, by go_num, by omega, by omega, by rw [show k + 1 - 1 = k by omega, HR.out]; exact st3⟩
            case measure => simp [intOf]; omega
          · rw [ba_ne hn]
            have HR := Lib.hid (show rkF (wsB W 2) k = rkF (wsB W 2) (k - 1) by rw [HST.out, if_neg hn])
            clear hn HST
            go_wp2_with fail
            go_roundw
            case rel => exact ⟨k + 1, by go_num, by omega, by omega, by rw [show k + 1 - 1 = k by omega, HR.out]; exact st2⟩
            case measure => simp [intOf]; omega
      · obtain rfl : k = 25 := by omega
        rw [show 25 - 1 = 24 from rfl, rk_kd] at st
        obtain ⟨K, hK⟩ : ∃ K, K = kd (wsB W 2) := ⟨_, rfl⟩
        rw [← hK] at st
        have hK24 : K ≤ 24 := by rw [hK]; exact kd_le _
        have HK := Lib.hid hK
        clear hK
        obtain ⟨b1, hb1⟩ : ∃ b, (numP 64 (W.getD 0 [])).isSome = b := ⟨_, rfl⟩
        obtain ⟨b2, hb2⟩ : ∃ b, (numP 64 (W.getD 1 [])).isSome = b := ⟨_, rfl⟩
        have m1 := fun x => rnum_w W 0 64 18446744073709551615 (by decide) (by decide) (by decide) (by decide) (by decide) b1 hb1 (by have := hsz 0; omega) x
        have m2 := fun x => rnum_w W 1 64 18446744073709551615 (by decide) (by decide) (by decide) (by decide) (by decide) b2 hb2 (by have := hsz 1; omega) x
        have HB1 := Lib.hid hb1
        have HB2 := Lib.hid hb2
        clear hb1 hb2
        have c0 := st.ws.cell (i := 0) (by rw [← HN.out]; omega)
        have c1 := st.ws.cell (i := 1) (by rw [← HN.out]; omega)
        go_wp2_with fail
        refine (m1 _).mono ?_
        rintro y w4 ⟨u1, rfl, HU1, rfl⟩
        go_wp2_with fail
        refine (m2 _).mono ?_
        rintro y w5 ⟨u2, rfl, HU2, rfl⟩
        clear m1 m2 c0 c1
        have g3 : u1 < 18446744073709551616 := HU1.out.2
        have g4 : u2 < 18446744073709551616 := HU2.out.2
        have ec := ev_cells st.ev
        have hfz := st.ev.fz
        simp only at ec
        have st5 := st.st hrx hgx hwx 2 (.int .u64 u1) (st.ev.ct u1)
        have st6 := st5.st hrx hgx hwx 1 (.int .u64 u2) (st5.ev.cy u2)
        simp only at st6
        clear st5 st
        have hhs := fun x => rhas_any K x
        go_upto_region 14 with fail
        generalize ((wr.setCell ⟨x, 2, none⟩ (.int .u64 u1)).setCell ⟨x, 1, none⟩ (.int .u64 u2)) = w7 at st6 ⊢
        clear ec hfz
        have ec := ev_cells st6.ev
        simp only at ec
        go_wp2_with fail
        refine (hhs _).mono ?_
        rintro y w8 ⟨rfl, hk8⟩
        have st8 := st6.on hk8
        have hH : (w8.alloc (.cells #[.bool (hasA K), .bool (hasB K), .bool (hasV K)] 47)).heap[w8.heap.size]? = some (.cells #[.bool (hasA K), .bool (hasB K), .bool (hasV K)] 47 (0, 0)) := heap_alloc_new w8 _
        have st9 := st8.on ((Below.refl w8.heap.size w8).alloc (Nat.le_refl _) (.cells #[.bool (hasA K), .bool (hasB K), .bool (hasV K)] 47))
        have hxh : x < w8.heap.size := blk_lt st8.ev
        clear ec st6 hk8 st8 hhs
        go_upto_region 16 with fail
        generalize w8.alloc (.cells #[.bool (hasA K), .bool (hasB K), .bool (hasV K)] 47) = w9 at hH st9 ⊢
        generalize w8.heap.size = h at hH hxh ⊢
        have HC := Lib.hid (show ∀ i, i < 3 → w9.cell? ⟨h, i, none⟩ = some (.bool (hasN K i)) from fun i hi => by
          rw [cell_blk hH]
          match i, hi with
          | 0, _ => rfl
          | 1, _ => rfl
          | 2, _ => rfl)
        go_wp2_with fail
        go_loop [12, 13] (fun u y => ∃ i c : Nat, y = .int .i64 i ∧ u = .int .i64 c ∧ i ≤ 3 ∧ c ≤ i ∧ Hid (c = cf K i)) (fun _ y => 3 - (intOf y).toNat)
        case atStart => exact ⟨0, 0, rfl, rfl, by decide, by decide, Lib.hid rfl⟩
        case round =>
          obtain ⟨i, c, rfl, rfl, hi, hci, HCF⟩ := hrel
          by_cases hlt : i < 3
          · have hcl := HC.out i hlt
            have h0i : (0 : Int) ≤ i := by omega
            have h3I : (i : Int) < 3 := by omega
            obtain ⟨b, hb⟩ : ∃ b, hasN K i = b := ⟨_, rfl⟩
            rw [hb] at hcl
            have HB := Lib.hid hb
            clear hb
            cases b
            · go_wp2_with fail
              go_round
              case rel => exact ⟨i + 1, c, by go_num, rfl, by omega, by omega, Lib.hid (by rw [cf, HB.out, ← HCF.out]; rfl)⟩
              case measure => simp [intOf]; omega
            · go_wp2_with fail
              go_round
              case rel => exact ⟨i + 1, c + 1, by go_num, by go_num, by omega, by omega, Lib.hid (by rw [cf, HB.out, ← HCF.out]; rfl)⟩
              case measure => simp [intOf]; omega
          · obtain rfl : i = 3 := by omega
            go_upto_region 21 with fail
            have HH := Lib.hid hH
            have hz9 := st9.rz
            have hB9 := st9.bel
            have ec := ev_cells st9.ev
            simp only at ec
            obtain ⟨⟨y0, y1, y2, y3, y4, y5⟩, f0, f1, f2, f3, f4, f5⟩ := hz9.cells
            have FIN := Lib.hid (fun (hE : prsE W = none) (wx : World) (k : Below w.heap.size w wx) => HPE.out hE ((((((k.setCell (p := ⟨r, 0, none⟩) hwr (.int .i64 0)).setCell (p := ⟨r, 1, none⟩) hwr (.int .u64 0)).setCell (p := ⟨r, 2, none⟩) hwr (.int .u64 0)).setCell (p := ⟨r, 3, none⟩) hwr (.int .u32 0)).setCell (p := ⟨r, 4, none⟩) hwr (.int .u32 0)).setCell (p := ⟨r, 5, none⟩) hwr (.int .u32 0)))
            clear hH
            by_cases hbad : b1 = false ∨ b2 = false ∨ K = 0 ∨ n ≠ 3 + c
            · have HE := Lib.hid (show prsE W = none by
                rcases hbad with h | h | h | h
                · exact prsE_num (Or.inl (by have := HB1.out; rw [h] at this; cases hq : numP 64 (W.getD 0 []) with | none => rfl | some v => rw [hq] at this; cases this))
                · exact prsE_num (Or.inr (Or.inl (by have := HB2.out; rw [h] at this; cases hq : numP 64 (W.getD 1 []) with | none => rfl | some v => rw [hq] at this; cases this)))
                · exact prsE_num (Or.inr (Or.inr (by rw [← HK.out]; exact h)))
                · exact prsE_len HK.out (by rw [← HN.out, ← HCF.out]; exact h))
              have hbad : b1 = false ∨ (b1 = true ∧ b2 = false) ∨ (b1 = true ∧ b2 = true ∧ K = 0) ∨ (b1 = true ∧ b2 = true ∧ K ≠ 0 ∧ n ≠ 3 + c) := by
                cases b1
                · exact Or.inl rfl
                · cases b2
                  · exact Or.inr (Or.inl ⟨rfl, rfl⟩)
                  · by_cases h : K = 0
                    · exact Or.inr (Or.inr (Or.inl ⟨rfl, rfl, h⟩))
                    · refine Or.inr (Or.inr (Or.inr ⟨rfl, rfl, h, ?_⟩))
                      rcases hbad with q | q | q | q
                      · cases q
                      · cases q
                      · exact absurd q h
                      · exact q
              rcases hbad with rfl | ⟨rfl, rfl⟩ | ⟨rfl, rfl, rfl⟩ | ⟨rfl, rfl, hK0, hnc⟩
              rotate_right 1
              · have dK : ((K : Int) == 0) = false := by rw [beq_eq_false_iff_ne]; omega
                have dn : ((n : Int) != 3 + c) = true := by rw [bne_iff_ne]; omega
                clear hK0 hnc
                go_wp2_with fail
                exact bodyPost_ret (v := .tuple #[.agg #[.int .i64 0, .int .u64 0, .int .u64 0, .int .u32 0, .int .u32 0, .int .u32 0], .int .i64 3]) (by simp [results, Tryd.results18, go_sem, y0, y1, y2, y3, y4, y5]) rfl (FIN.out HE.out _ hB9)
              all_goals go_wp2_with fail
              all_goals exact bodyPost_ret (v := .tuple #[.agg #[.int .i64 0, .int .u64 0, .int .u64 0, .int .u32 0, .int .u32 0, .int .u32 0], .int .i64 3]) (by simp [results, Tryd.results18, go_sem, y0, y1, y2, y3, y4, y5]) rfl (FIN.out HE.out _ hB9)
            · obtain ⟨rfl, rfl, hK0, hnc⟩ : b1 = true ∧ b2 = true ∧ K ≠ 0 ∧ n = 3 + c := by
                refine ⟨?_, ?_, fun h => hbad (Or.inr (Or.inr (Or.inl h))), ?_⟩
                · cases b1
                  · exact absurd (Or.inl rfl) hbad
                  · rfl
                · cases b2
                  · exact absurd (Or.inr (Or.inl rfl)) hbad
                  · rfl
                · by_cases h : n = 3 + c
                  · exact h
                  · exact absurd (Or.inr (Or.inr (Or.inr h))) hbad
              clear hbad
              have dK : ((K : Int) == 0) = false := by rw [beq_eq_false_iff_ne]; omega
              have HNC := Lib.hid (show 3 + c = 3 + c from rfl)
              have HK0 := Lib.hid hK0
              subst hnc
              clear hK0 hz9 hB9 y0 y1 y2 y3 y4 y5 f0 f1 f2 f3 f4 f5 HC hci hi hlt
              go_wp2_with fail
              clear ec
              go_loopw [14, 15] (fun u y wr => ∃ (i c' : Nat) (f : Nat → Nat), y = .int .i64 i ∧ u = .int .i64 ((3 + c' : Nat) : Int) ∧ i ≤ 3 ∧ Hid (c' = cf K i) ∧ Hid (tkN K (W.drop 3) i = some (f, W.drop (3 + c'))) ∧ Hid ((∀ j, f j < 4294967296) ∧ (∀ j, i ≤ j → f j = 0)) ∧ RP w r g x W ⟨K, u2, u1, f 0, f 1, f 2⟩ wr ∧ wr.heap[h]? = some (.cells #[.bool (hasA K), .bool (hasB K), .bool (hasV K)] 47 (0, 0))) (fun _ y _ => 3 - (intOf y).toNat)
              case atStart => exact ⟨0, 0, fun _ => 0, rfl, rfl, by decide, Lib.hid rfl, Lib.hid rfl, Lib.hid ⟨fun _ => by show (0 : Nat) < _; decide, fun _ _ => rfl⟩, st9, HH.out⟩
              case round =>
                obtain ⟨i, c', f, rfl, rfl, hi, HCI, HT, HF, st, hH⟩ := hrel
                clear st9
                by_cases hlt : i < 3
                · have h0i : (0 : Int) ≤ i := by omega
                  have h3I : (i : Int) < 3 := by omega
                  have hcl : wr.cell? ⟨h, i, none⟩ = some (.bool (hasN K i)) := by
                    rw [cell_blk hH]
                    match i, hlt with
                    | 0, _ => rfl
                    | 1, _ => rfl
                    | 2, _ => rfl
                  obtain ⟨b, hb⟩ : ∃ b, hasN K i = b := ⟨_, rfl⟩
                  rw [hb] at hcl
                  have HS := Lib.hid (tkN_step HT.out)
                  have HCS := Lib.hid (show cf K (i + 1) = c' + if b then 1 else 0 by rw [cf, hb, ← HCI.out])
                  have HLE := Lib.hid (show cf K (i + 1) ≤ c by rw [HCF.out]; have := cf_le K (i + 1) (2 - i); rwa [show i + 1 + (2 - i) = 3 by omega] at this)
                  rw [hb] at HS
                  clear hb
                  cases b
                  · have HS2 := Lib.hid (show tkN K (W.drop 3) (i + 1) = some (f, W.drop (3 + c')) by
                      rw [HS.out]
                      show some (fun j => if j = i then 0 else f j, W.drop (3 + c')) = _
                      rw [show (fun j => if j = i then 0 else f j) = f from funext fun j => by
                        by_cases hj : j = i
                        · rw [if_pos hj, HF.out.2 j (by omega)]
                        · rw [if_neg hj]])
                    go_wp2_with fail
                    go_roundw
                    case rel => exact ⟨i + 1, c', f, by go_num, rfl, by omega, Lib.hid HCS.out.symm, HS2, Lib.hid ⟨HF.out.1, fun j hj => HF.out.2 j (by omega)⟩, st, hH⟩
                    case measure => simp [intOf]; omega
                  · have hcn : c' < c := by
                      have h1 := HCS.out
                      have h2 := HLE.out
                      simp only [if_true] at h1
                      omega
                    have hcnI : (3 : Int) + c' < 3 + c := by omega
                    have c0 := st.ws.cell (i := 3 + c') (by rw [← HN.out]; omega)
                    rw [drop_at (j := 3 + c') (by rw [← HN.out]; omega)] at HS
                    obtain ⟨b, hb⟩ : ∃ b, (numP 32 (W.getD (3 + c') [])).isSome = b := ⟨_, rfl⟩
                    have m1 := fun x => rnum_w W (3 + c') 32 4294967295 (by decide) (by decide) (by decide) (by decide) (by decide) b hb (by have := hsz (3 + c'); omega) x
                    have HB := Lib.hid hb
                    clear hb
                    go_wp2_with fail
                    refine (m1 _).mono ?_
                    rintro y w8 ⟨u, rfl, HU, rfl⟩
                    have hz := st.rz
                    have hB := st.bel
                    obtain ⟨⟨y0, y1, y2, y3, y4, y5⟩, f0, f1, f2, f3, f4, f5⟩ := hz.cells
                    cases b
                    · have HE := Lib.hid (show prsE W = none from prsE_none (by
                        have hE : tkN K (W.drop 3) (i + 1) = none := by
                          rw [HS.out]
                          show ((numP 32 (W.getD (3 + c') [])).map _).map _ = none
                          rw [show numP 32 (W.getD (3 + c') []) = none by have := HB.out; cases h : numP 32 (W.getD (3 + c') []) with | none => rfl | some v => rw [h] at this; cases this]
                          rfl
                        rw [← HK.out]
                        have := tkN_none hE (2 - i)
                        rwa [show i + 1 + (2 - i) = 3 by omega] at this))
                      go_wp2_with fail
                      exact bodyPost_ret (v := .tuple #[.agg #[.int .i64 0, .int .u64 0, .int .u64 0, .int .u32 0, .int .u32 0, .int .u32 0], .int .i64 3]) (by simp [results, Tryd.results18, go_sem, y0, y1, y2, y3, y4, y5]) rfl (FIN.out HE.out _ hB)
                    · obtain ⟨v, hv⟩ := Option.isSome_iff_exists.1 HB.out
                      obtain rfl : u = v := HU.out.1 v hv
                      have hu : u < 4294967296 := by simpa using numP_lt (by decide) hv
                      have HE := Lib.hid (show tkN K (W.drop 3) (i + 1) = some (fun j => if j = i then u else f j, W.drop (3 + (c' + 1))) by
                        rw [HS.out]
                        show ((numP 32 (W.getD (3 + c') [])).map _).map _ = _
                        rw [hv]
                        rfl)
                      have HF2 := Lib.hid (show (∀ j, (if j = i then u else f j) < 4294967296) ∧ (∀ j, i + 1 ≤ j → (if j = i then u else f j) = 0) from ⟨fun j => by
                        split
                        · exact hu
                        · exact HF.out.1 j, fun j hj => by
                        rw [if_neg (by omega)]
                        exact HF.out.2 j (by omega)⟩)
                      have HC2 := Lib.hid (show c' + 1 = cf K (i + 1) by have := HCS.out; simp only [if_true] at this; exact this.symm)
                      have hxl : x < h := hxh
                      have hHk : ∀ (q : Nat) (z : Value), (wr.setCell ⟨x, q, none⟩ z).heap[h]? = some (.cells #[.bool (hasA K), .bool (hasB K), .bool (hasV K)] 47 (0, 0)) := fun q z => blk_setCell_other hH (show h ≠ x by omega) z
                      have ec := ev_cells st.ev
                      have hfz := st.ev.fz
                      simp only at ec
                      have s3 := st.st hrx hgx hwx 3 (.int .u32 u) (st.ev.a u)
                      have s4 := st.st hrx hgx hwx 4 (.int .u32 u) (st.ev.b u)
                      have s5 := st.st hrx hgx hwx 5 (.int .u32 u) (st.ev.v u)
                      have HHK := Lib.hid hHk
                      clear hHk hv HU HB HS y0 y1 y2 y3 y4 y5 f0 f1 f2 f3 f4 f5 hcl c0 m1 hz hB
                      obtain rfl | rfl | rfl : i = 0 ∨ i = 1 ∨ i = 2 := by omega
                      · go_wp2_with fail
                        go_roundw
                        case rel => exact ⟨1, c' + 1, _, rfl, by go_num, by omega, HC2, HE, HF2, s3, HHK.out _ _⟩
                        case measure => simp [intOf]
                      · go_wp2_with fail
                        go_roundw
                        case rel => exact ⟨2, c' + 1, _, rfl, by go_num, by omega, HC2, HE, HF2, s4, HHK.out _ _⟩
                        case measure => simp [intOf]
                      · go_wp2_with fail
                        go_roundw
                        case rel => exact ⟨3, c' + 1, _, rfl, by go_num, by omega, HC2, HE, HF2, s5, HHK.out _ _⟩
                        case measure => simp [intOf]
                · obtain rfl : i = 3 := by omega
                  obtain rfl : c' = c := by rw [HCI.out, HCF.out]
                  have hdr : W.drop (3 + c') = [] := List.drop_of_length_le (by rw [← HN.out]; omega)
                  have HPR := Lib.hid (show prs s.data.toList = fin ⟨K, u2, u1, f 0, f 1, f 2⟩ by
                    have h1 := prsE_of HN.out h3 HB1.out HU1.out.1 HB2.out HU2.out.1 HK.out HK0.out HT.out
                    rw [hdr, if_pos rfl] at h1
                    unfold prs
                    rw [← HW.out, h1])
                  clear hdr
                  have g0 : f 0 < 4294967296 := HF.out.1 0
                  have g1 : f 1 < 4294967296 := HF.out.1 1
                  have g2 : f 2 < 4294967296 := HF.out.1 2
                  have hck := fun x => rcheck_any ⟨K, u2, u1, f 0, f 1, f 2⟩ x
                  simp only [Ev.val] at hck
                  generalize f 0 = a0 at *
                  generalize f 1 = a1 at *
                  generalize f 2 = a2 at *
                  obtain ⟨c0, c1, c2, c3, c4, c5⟩ := ev_cells st.ev
                  simp only at c0 c1 c2 c3 c4 c5
                  go_wp2_with fail
                  refine (hck _).mono ?_
                  rintro y wa ⟨rfl, hka⟩
                  have sta := st.on hka
                  clear st hka c0 c1 c2 c3 c4 c5 hck hH
                  have hza := sta.rz
                  have hBa := sta.bel
                  obtain ⟨⟨y0, y1, y2, y3, y4, y5⟩, f0, f1, f2, f3, f4, f5⟩ := hza.cells
                  obtain ⟨c0, c1, c2, c3, c4, c5⟩ := ev_cells sta.ev
                  simp only at c0 c1 c2 c3 c4 c5
                  obtain ⟨ck, hcc⟩ : ∃ ck, ck = (Ev.mk K u2 u1 a0 a1 a2).chk := ⟨_, rfl⟩
                  rw [← hcc]
                  have HC := Lib.hid hcc
                  clear hcc
                  by_cases h0 : ck = 0
                  · subst h0
                    go_wp2_with fail
                    exact bodyPost_ret (v := .tuple #[.agg #[.int .i64 K, .int .u64 u2, .int .u64 u1, .int .u32 a0, .int .u32 a1, .int .u32 a2], .int .i64 0]) (by simp [results, Tryd.results18, go_sem, y0, y1, y2, y3, y4, y5]) rfl (prs_ok HPR.out HC.out ((((((hBa.setCell hwr _).setCell hwr _).setCell hwr _).setCell hwr _).setCell hwr _).setCell hwr _))
                  · have d : (ck != 0) = true := by rw [bne_iff_ne]; exact h0
                    have HF0 := Lib.hid h0
                    clear h0
                    go_wp2_with fail
                    exact bodyPost_ret (v := .tuple #[.agg #[.int .i64 0, .int .u64 0, .int .u64 0, .int .u32 0, .int .u32 0, .int .u32 0], .int .i64 ck]) (by simp [results, Tryd.results18, go_sem, y0, y1, y2, y3, y4, y5]) rfl (prs_no HPR.out HC.out HF0.out ((((((hBa.setCell hwr _).setCell hwr _).setCell hwr _).setCell hwr _).setCell hwr _).setCell hwr _))
end Go.Proofs.YtokjkfbbejalhaaDoor
