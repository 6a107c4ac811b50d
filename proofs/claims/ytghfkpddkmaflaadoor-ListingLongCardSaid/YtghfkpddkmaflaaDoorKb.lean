/- Contract of the reference's Parse (layer 11). No condition but those that it names. -/
import Derived.Test.YtghfkpddkmaflaaDoorKa
import Derived.Test.YtghfkpddkmaflaaDoorJn
import Derived.Test.YtghfkpddkmaflaaDoorIs
namespace Go.Proofs.YtghfkpddkmaflaaDoor
open Go Go.RowKit
set_option linter.unusedVariables false
set_option linter.unusedSimpArgs false
set_option maxRecDepth 20000
theorem words_of {w wr : World} {v : Value} {W : List (List UInt8)} (h : WdS w v W wr) (hp : 1 ≤ W.length) : ∃ g cap, v = .slice (some ⟨g, 0, none⟩) W.length cap ∧ W.length ≤ cap ∧ w.heap.size ≤ g ∧ g < wr.heap.size ∧ WsIn wr g W := by
  obtain ⟨hb, hl, h⟩ := h
  rcases h with ⟨_, h0⟩ | ⟨g, cap, cur, rfl, hg, hh, hc, hm, hs, ht⟩
  · omega
  · refine ⟨g, cap, rfl, hc, hg, blk_lt hh, cur, true, hh, rfl, fun i hi => ?_⟩
    rw [Nat.mul_one] at hs ht
    have := congrArg (·[i]?) ht
    simp only [List.getElem?_take] at this
    rw [if_pos hi] at this
    rw [← Array.getElem?_toList, this]
    unfold wv wsB
    rw [List.getElem?_map, List.getD_eq_getElem?_getD, List.getElem?_eq_getElem hi]
    rfl
theorem drop_at {W : List (List UInt8)} {j : Nat} (h : j < W.length) : W.drop j = W.getD j [] :: W.drop (j + 1) := by
  rw [List.drop_eq_getElem_cons h, List.getD_eq_getElem?_getD, List.getElem?_eq_getElem h]
  rfl
/-- The last mode of that name among the first j; -1: none. -/
def nD (x : ByteArray) : Nat → Int
  | 0 => -1
  | j + 1 => if mdB j = x then j else nD x j
theorem nD_three (x : List UInt8) : nD (txB x) 3 = match rdD x with | some n => (n : Int) | none => -1 := by
  have e : ∀ d : Int, mdB d = txB x ↔ x = (mdB d).data.toList := fun d => by
    constructor
    · intro h; rw [h]; simp [txB]
    · intro h; rw [h]; simp [txB]
  have q01 : (mdB 0).data.toList ≠ (mdB 1).data.toList := by decide
  have q02 : (mdB 0).data.toList ≠ (mdB 2).data.toList := by decide
  have q12 : (mdB 1).data.toList ≠ (mdB 2).data.toList := by decide
  show (if mdB 2 = txB x then (2 : Int) else if mdB 1 = txB x then 1 else if mdB 0 = txB x then 0 else (-1 : Int)) = _
  unfold rdD
  simp only [e]
  by_cases h0 : x = (mdB 0).data.toList
  · rw [if_neg (by rw [h0]; exact q02), if_neg (by rw [h0]; exact q01), if_pos h0, if_pos h0]; rfl
  · by_cases h1 : x = (mdB 1).data.toList
    · rw [if_neg (by rw [h1]; exact q12), if_pos h1, if_neg h0, if_pos h1]; rfl
    · by_cases h2 : x = (mdB 2).data.toList
      · rw [if_pos h2, if_neg h0, if_neg h1, if_pos h2]; rfl
      · rw [if_neg h2, if_neg h1, if_neg h0, if_neg h0, if_neg h1, if_neg h2]
theorem nD_hit {x : List UInt8} {v : Nat} (h : rdD x = some v) : nD (txB x) 3 = v := by rw [nD_three, h]
theorem nD_no {x : List UInt8} (h : rdD x = none) : nD (txB x) 3 = -1 := by rw [nD_three, h]
theorem nD_rng (x : ByteArray) : ∀ j : Nat, j ≤ 3 → -1 ≤ nD x j ∧ nD x j < 3
  | 0, _ => by show (-1 : Int) ≤ -1 ∧ (-1 : Int) < 3; omega
  | j + 1, h => by
    have := nD_rng x j (by omega)
    unfold nD
    split <;> omega
theorem rdI_some {x : List UInt8} {v : Nat} (h : rdR x = some v) : rdI x = v := by unfold rdI; rw [h]
theorem rdI_none {x : List UInt8} (h : rdR x = none) : rdI x = -1 := by unfold rdI; rw [h]
theorem drewN_bel (w : World) (n : Nat) : Below w.heap.size w (w.drewN n) := ⟨rfl, rfl, rfl, Nat.le_refl _, fun _ _ => rfl⟩
/-- Where the reference's Parse stands: the result in r, the words in g, the instruction in x. -/
structure QP (w : World) (r g x : Nat) (W : List (List UInt8)) (I : Ins) (wr : World) : Prop where
  bel : Below w.heap.size w wr
  rz : Iz wr r
  ws : WsIn wr g W
  iv : wr.heap[x]? = some (.cells I.cells.toArray 24 (0, 0))
theorem QP.on {w : World} {r g x : Nat} {W : List (List UInt8)} {I : Ins} {w1 w2 : World} (s : QP w r g x W I w1) (k : Below w1.heap.size w1 w2) : QP w r g x W I w2 :=
  ⟨bel_next s.bel k, (k.block _ (blk_lt s.rz)).trans s.rz, s.ws.on k, (k.block _ (blk_lt s.iv)).trans s.iv⟩
theorem QP.st {w : World} {r g x : Nat} {W : List (List UInt8)} {I I' : Ins} {w1 : World} (s : QP w r g x W I w1) (hrx : r < x) (hgx : g < x) (hwx : w.heap.size ≤ x) (i : Nat) (v : Value) (h : I.cells.toArray.setIfInBounds i v = I'.cells.toArray) : QP w r g x W I' (w1.setCell ⟨x, i, none⟩ v) := by
  have hx : x < w1.heap.size := blk_lt s.iv
  have hb : Below x w1 (w1.setCell ⟨x, i, none⟩ v) := ((Below.refl w1.heap.size w1).mono (Nat.le_of_lt hx)).setCell (Nat.le_refl _) _
  refine ⟨s.bel.setCell hwx _, (hb.block _ hrx).trans s.rz, ?_, (blk_setCell s.iv v).trans (by rw [h])⟩
  obtain ⟨cs, fz, a1, a2, a3⟩ := s.ws
  exact ⟨cs, fz, (hb.block _ hgx).trans a1, a2, a3⟩
/-- The order, so far. -/
def ordJ (p q r s t : Bool) (j : Nat) : List UInt8 := ordL (p && decide (0 < j)) (q && decide (1 < j)) (r && decide (3 < j)) (s && decide (2 < j)) (t && decide (4 < j))
theorem ordJ_zero (p q r s t : Bool) : ordJ p q r s t 0 = [] := by revert p q r s t; decide
theorem ordJ_five (p q r s t : Bool) : ordJ p q r s t 5 = ordL p q r s t := by revert p q r s t; decide
theorem ordJ_len (p q r s t : Bool) (j : Nat) : (ordJ p q r s t j).length ≤ 5 := by
  have : ∀ p q r s t : Bool, (ordL p q r s t).length ≤ 5 := by decide
  exact this _ _ _ _ _
theorem tx_app (L M : List UInt8) : txB L ++ txB M = txB (L ++ M) := by
  apply ByteArray.ext
  apply Array.toList_inj.1
  simp [txB, ByteArray.data_append]
theorem pF_nil {dD : Bool} {o : Int} {a b c d k : Nat} {R : List (List UInt8)} : pF dD o [] a b c d k R = if R = [] then some ⟨o, a, b, c, d, k⟩ else none := rfl
theorem pF_skip {dD : Bool} {o : Int} {L : List UInt8} {a b c d k : Nat} {R : List (List UInt8)} (h1 : dD = true) (h2 : d ≠ 2) : pF dD o (67 :: L) a b c d k R = pF dD o L a b c d k R := by
  rw [pF_cons _ _ _ _ _ _ _ _ _ _ ⟨rfl, h1, h2⟩]
theorem pF_lack {dD : Bool} {o : Int} {x : UInt8} {L : List UInt8} {a b c d k : Nat} (h : ¬ (x = 67 ∧ dD = true ∧ d ≠ 2)) : pF dD o (x :: L) a b c d k [] = none := by
  rw [pF, if_neg h]
theorem pF_65 {dD : Bool} {o : Int} {L : List UInt8} {a b c d k : Nat} {w : List UInt8} {t : List (List UInt8)} : pF dD o (65 :: L) a b c d k (w :: t) = (rdR w).bind fun n => pF dD o L n b c d k t := by
  rw [pF, if_neg (by intro h; exact absurd h.1 (by decide)), if_pos rfl]
theorem pF_66 {dD : Bool} {o : Int} {L : List UInt8} {a b c d k : Nat} {w : List UInt8} {t : List (List UInt8)} : pF dD o (66 :: L) a b c d k (w :: t) = (rdR w).bind fun n => pF dD o L a n c d k t := by
  rw [pF, if_neg (by intro h; exact absurd h.1 (by decide)), if_neg (by decide), if_pos rfl]
theorem pF_67 {dD : Bool} {o : Int} {L : List UInt8} {a b c d k : Nat} {w : List UInt8} {t : List (List UInt8)} (h : ¬ (dD = true ∧ d ≠ 2)) : pF dD o (67 :: L) a b c d k (w :: t) = (rdR w).bind fun n => pF dD o L a b n d k t := by
  rw [pF, if_neg (fun q => h q.2), if_neg (by decide), if_neg (by decide), if_pos rfl]
theorem pF_68 {dD : Bool} {o : Int} {L : List UInt8} {a b c d k : Nat} {w : List UInt8} {t : List (List UInt8)} : pF dD o (68 :: L) a b c d k (w :: t) = (rdD w).bind fun n => pF dD o L a b c n k t := by
  rw [pF, if_neg (by intro h; exact absurd h.1 (by decide)), if_neg (by decide), if_neg (by decide), if_neg (by decide), if_pos rfl]
theorem pF_75 {dD : Bool} {o : Int} {L : List UInt8} {a b c d k : Nat} {w : List UInt8} {t : List (List UInt8)} : pF dD o (75 :: L) a b c d k (w :: t) = (numP 32 w).bind fun n => pF dD o L a b c d n t := by
  rw [pF, if_neg (by intro h; exact absurd h.1 (by decide)), if_neg (by decide), if_neg (by decide), if_neg (by decide), if_neg (by decide)]
theorem rnum_w (W : List (List UInt8)) (i B M : Nat) (h9 : 9 ≤ M) (hM : M < 18446744073709551616) (hBM : M = 2 ^ B - 1) (hB : 4 ≤ B) (hB2 : B ≤ 64) (b : Bool) (hb : (numP B (W.getD i [])).isSome = b) (hs : (wsB W i).size ≤ 100000) (w : World) :
    Calls Tryd.prog 41 #[.string (wsB W i), .int .u64 M] w fun e w' => ∃ n : Nat, e = .returned (.tuple #[.int .u64 n, .bool b]) ∧ Hid ((∀ u, numP B (W.getD i []) = some u → n = u) ∧ n < 18446744073709551616) ∧ w = w' := by
  refine (rnumber_any (wsB W i) hs M h9 hM w).mono ?_
  rintro e w' ⟨n, rfl, h1, h2, h3⟩
  have e1 : (wsB W i).data.toList = W.getD i [] := rfl
  rw [e1, hBM, ← numP_eq hB hB2] at h1 ⊢
  rw [hb]
  exact ⟨n, rfl, Lib.hid ⟨h1, h2⟩, h3⟩
set_option maxHeartbeats 16000000 in
theorem rparse_any (s : ByteArray) (hsize : s.size ≤ 90000) (w : World) : Calls Tryd.prog 14 #[.string s] w (LParsePost s.data.toList w) := by
  have hz0 : Iz (w.alloc (.cells #[.int .i64 0, .int .i64 0, .int .i64 0, .int .i64 0, .int .i64 0, .int .u32 0] 24)) w.heap.size := heap_alloc_new w _
  have hB0 := (Below.refl w.heap.size w).alloc (Nat.le_refl _) (.cells #[.int .i64 0, .int .i64 0, .int .i64 0, .int .i64 0, .int .i64 0, .int .u32 0] 24)
  have hsz := wsB_size s.data.toList
  have hpos := wds_pos s.data.toList
  have hle := wds_le s.data.toList
  have hlen : s.data.toList.length ≤ 90000 := by simpa using hsize
  have hsp := fun x => rwords_any s (by omega) x
  have HERR := Lib.hid (fun (h : insE (wds s.data.toList) = none) (wx : World) (k : Below w.heap.size w wx) => ins_err h k)
  have HOKK := Lib.hid (fun (e : Ins) (h : insE (wds s.data.toList) = some e) (ck : Int) (hc : ck = e.chk) (h0 : ck = 0) (w w' : World) (k : Below w.heap.size w w') => ins_ok h hc h0 k)
  have HNO := Lib.hid (fun (e : Ins) (h : insE (wds s.data.toList) = some e) (ck : Int) (hc : ck = e.chk) (h0 : ¬ ck = 0) (w w' : World) (k : Below w.heap.size w w') => ins_no h hc h0 k)
  have HERR := Lib.hid (fun (h : insE (wds s.data.toList) = none) {wx : World} (k : Below w.heap.size w wx) => HERR.out h wx k)
  have HK := Lib.hid (insE_K (wds s.data.toList))
  obtain ⟨W, hW⟩ : ∃ W, W = wds s.data.toList := ⟨_, rfl⟩
  rw [← hW] at hpos hle hsz hsp HK HERR HOKK HNO
  clear hW
  go_enter Tryd.func14, Tryd.ntmps14
  go_wp2_with fail
  generalize w.alloc (.cells #[.int .i64 0, .int .i64 0, .int .i64 0, .int .i64 0, .int .i64 0, .int .u32 0] 24) = w1 at hz0 hB0 ⊢
  obtain ⟨r, hr⟩ : ∃ r, r = w.heap.size := ⟨_, rfl⟩
  rw [← hr] at hz0 ⊢
  have hwr : w.heap.size ≤ r := by omega
  clear hr
  refine (hsp _).mono ?_
  rintro x w2 ⟨v, rfl, hwd⟩
  obtain ⟨g, cap, rfl, hcap, hwg, hgl, hws⟩ := words_of hwd hpos
  have hk := hwd.bel
  have hz : Iz w2 r := (hk.block _ (blk_lt hz0)).trans hz0
  have hB := bel_next hB0 hk
  have hrg := blk_lt hz0
  have hrg : r < g := by omega
  clear hz0 hB0 hk hsp hwd hwg
  obtain ⟨n, hn⟩ : ∃ n, n = W.length := ⟨_, rfl⟩
  rw [← hn] at hpos hle hcap ⊢
  have HN := Lib.hid hn
  have hl0 : (0 : Int) < n := by omega
  have hl0N : 0 < n := by omega
  clear hn
  have hE : (w2.alloc (.cells #[.int .i64 0, .int .i64 0, .int .i64 0, .int .i64 0, .int .i64 0, .int .u32 0] 24)).heap[w2.heap.size]? = some (.cells (Ins.cells ⟨0, 0, 0, 0, 0, 0⟩).toArray 24 (0, 0)) := heap_alloc_new w2 _
  have hk2 := (Below.refl w2.heap.size w2).alloc (Nat.le_refl _) (.cells #[.int .i64 0, .int .i64 0, .int .i64 0, .int .i64 0, .int .i64 0, .int .u32 0] 24)
  go_upto_region 3 with fail
  generalize w2.alloc (.cells #[.int .i64 0, .int .i64 0, .int .i64 0, .int .i64 0, .int .i64 0, .int .u32 0] 24) = w3 at hE hk2 ⊢
  have st : QP w r g w2.heap.size W ⟨0, 0, 0, 0, 0, 0⟩ w3 := ⟨bel_next hB hk2, (hk2.block _ (blk_lt hz)).trans hz, hws.on hk2, hE⟩
  have hwx : w.heap.size ≤ w2.heap.size := hB.size
  generalize w2.heap.size = x at st hgl hwx ⊢
  have hgx : g < x := hgl
  have hrx : r < x := by omega
  clear hE hk2 hz hws hB hgl
  go_upto_block 0 with fail
  go_wp2_with fail
  go_loopw [6] (fun u wr => ∃ k : Nat, u = .int .i64 k ∧ 1 ≤ k ∧ k ≤ 39 ∧ QP w r g x W ⟨((irF (wsB W 0) (k - 1) : Nat) : Int), 0, 0, 0, 0, 0⟩ wr) (fun u _ => 39 - (intOf u).toNat)
  case atStart => exact ⟨1, rfl, Nat.le_refl _, by decide, st⟩
  case round =>
    obtain ⟨k, rfl, h1, h39, st⟩ := hrel
    by_cases hle : k ≤ 38
    · have hleI : (k : Int) ≤ 38 := by omega
      have hk0 : (0 : Int) ≤ k := by omega
      have hk39 : (k : Int) < 39 := by omega
      have hws := st.ws
      have hw2 := (hws.on ((Below.refl wr.heap.size wr).drew)).cell (i := 0) (by rw [← HN.out]; omega)
      have hkk := (Below.refl wr.heap.size wr).drew
      go_upto_region 6 with fail
      go_cut [33] (fun u wx => u = .bool ((inm k).toList == (wsB W 0).toList) ∧ Below wr.heap.size wr wx)
      case first =>
        refine wp_region_held_drew (S := fun w' => w'.cell? ⟨g, 0, none⟩ = some (.string (wsB W 0))) (by kernel_rfl) hw2 (fun hHeld => ?_)
        refine wpAnyH_take (i := 1) (v := ?_) rfl (by kernel_rfl) (by kernel_rfl) (by kernel_rfl) (fun _ _ _ h => h) (Or.inl ⟨by rfl, ?_⟩) (by assumption) ?_
        rotate_left
        · intro w hSw
          try dsimp only at hSw
          go_simp
          try with_reducible rfl
        try simp only [Act.put, List.setIfInBounds_toArray, List.set_cons_zero, List.set_cons_succ]
        refine wpAnyH_take (i := 4) (v := ?_) rfl (by kernel_rfl) (by kernel_rfl) (by kernel_rfl) (fun _ _ _ h => h) (Or.inl ⟨by rfl, ?_⟩) (by assumption) ?_
        rotate_left
        · intro w hSw
          try dsimp only at hSw
          go_simp
          try with_reducible rfl
        try simp only [Act.put, List.setIfInBounds_toArray, List.set_cons_zero, List.set_cons_succ]
        refine wpAnyH_take (i := 5) (v := ?_) rfl (by kernel_rfl) (by kernel_rfl) (by kernel_rfl) (fun _ _ _ h => h) (Or.inl ⟨by rfl, ?_⟩) (by assumption) ?_
        rotate_left
        · intro w hSw
          try dsimp only at hSw
          go_simp
          try with_reducible rfl
        try simp only [Act.put, List.setIfInBounds_toArray, List.set_cons_zero, List.set_cons_succ]
        refine wpAnyH_take (i := 6) (v := ?_) rfl (by kernel_rfl) (by kernel_rfl) (by kernel_rfl) (fun _ _ _ h => h) (Or.inl ⟨by rfl, ?_⟩) (by assumption) ?_
        rotate_left
        · intro w hSw
          try dsimp only at hSw
          go_simp
          try with_reducible rfl
        try simp only [Act.put, List.setIfInBounds_toArray, List.set_cons_zero, List.set_cons_succ]
        refine wpAnyH_ready (rs := [0]) (by kernel_rfl) (by simp) ?_
        refine AllReadyH.cons rfl (fun K hK => ?_) AllReadyH.nil
        go_simp
        refine (rinames_any _).mono ?_
        rintro y wC ⟨rfl, hnC, hkC, hltC⟩
        have hkW := bel_next hkk hkC
        have hnc : wC.cell? ⟨wr.heap.size, k, none⟩ = some (.string (inm k)) := hnC.cell (k := k) (by omega)
        have hwc := (hws.on hkW).cell (i := 0) (by rw [← HN.out]; omega)
        refine hK.out _ _ (hwc) (fun hHeld => ?_)
        clear hK K
        try simp only [Act.put, List.setIfInBounds_toArray, List.set_cons_zero, List.set_cons_succ]
        refine wpAnyH_take (i := 2) (v := ?_) rfl (by kernel_rfl) (by kernel_rfl) (by kernel_rfl) (fun _ _ _ h => h) (Or.inl ⟨by rfl, ?_⟩) (by assumption) ?_
        rotate_left
        · intro w hSw
          try dsimp only at hSw
          go_simp
          try with_reducible rfl
        try simp only [Act.put, List.setIfInBounds_toArray, List.set_cons_zero, List.set_cons_succ]
        refine wpAnyH_ready (rs := [3]) (by kernel_rfl) (by simp) ?_
        refine AllReadyH.cons rfl (fun K hK => ?_) AllReadyH.nil
        go_simp
        refine hK.out _ _ (hwc) (fun hHeld => ?_)
        clear hK K
        try simp only [Act.put, List.setIfInBounds_toArray, List.set_cons_zero, List.set_cons_succ]
        refine wpAnyH_take (i := 7) (v := ?_) rfl (by kernel_rfl) (by kernel_rfl) (by kernel_rfl) (fun _ _ _ h => h) (Or.inl ⟨by rfl, ?_⟩) (by assumption) ?_
        rotate_left
        · intro w hSw
          try dsimp only at hSw
          go_simp
          try with_reducible rfl
        try simp only [Act.put, List.setIfInBounds_toArray, List.set_cons_zero, List.set_cons_succ]
        refine wpAnyH_done (by kernel_rfl) ?_ _
        simp only [Act.put, List.setIfInBounds_toArray, List.set_cons_zero, List.set_cons_succ, List.getElem_toArray, List.getElem_cons_succ, List.getElem_cons_zero]
        go_wp2_with fail
        go_meet
        exact ⟨rfl, hkW⟩
      case rest =>
        obtain ⟨rfl, hkx⟩ := hcut
        have st2 := st.on hkx
        have HST := Lib.hid (show irF (wsB W 0) k = if inm ((k : Nat) : Int) = wsB W 0 then k else irF (wsB W 0) (k - 1) by
          obtain ⟨j, rfl⟩ : ∃ j, k = j + 1 := ⟨k - 1, by omega⟩
          rfl)
        clear st hws hw2 hkk hkx
        by_cases hn : inm k = wsB W 0
        · rw [ba_eq hn]
          have HR := Lib.hid (show irF (wsB W 0) k = k by rw [HST.out, if_pos hn])
          clear hn HST
          obtain ⟨c0, c1, c2, c3, c4, c5⟩ := ins_cells st2.iv
          have hfz := frozen_blk st2.iv 0
          simp only at c0 c1 c2 c3 c4 c5
          have st3 := st2.st hrx hgx hwx (I' := ⟨k, 0, 0, 0, 0, 0⟩) 0 (.int .i64 k) rfl
          clear st2
          go_wp2_with fail
          go_roundw
          case rel => exact ⟨k + 1, by go_num, by omega, by omega, by rw [show k + 1 - 1 = k by omega, HR.out]; exact st3⟩
          case measure => simp [intOf]; omega
        · rw [ba_ne hn]
          have HR := Lib.hid (show irF (wsB W 0) k = irF (wsB W 0) (k - 1) by rw [HST.out, if_neg hn])
          clear hn HST
          go_wp2_with fail
          go_roundw
          case rel => exact ⟨k + 1, by go_num, by omega, by omega, by rw [show k + 1 - 1 = k by omega, HR.out]; exact st2⟩
          case measure => simp [intOf]; omega
    · obtain rfl : k = 39 := by omega
      rw [show 39 - 1 = 38 from rfl, ir_iop] at st
      have hol := iop_lt (wsB W 0)
      have hou : (0 : Int) ≤ iop (wsB W 0) := by omega
      have HO0 := Lib.hid (show (iop (wsB W 0) = 0) ↔ (iop (wsB W 0) : Int) = 0 by omega)
      generalize (iop (wsB W 0) : Int) = o at hol hou HK HO0 st ⊢
      obtain ⟨E, hE⟩ : ∃ E, E = K0 o (W.drop 1) := ⟨_, rfl⟩
      have HK2 := Lib.hid (show insE W = if o = 0 then none else E by
        rw [HK.out, hE]
        by_cases h : o = 0
        · rw [if_pos h, if_pos (HO0.out.2 h)]
        · rw [if_neg h, if_neg (fun k => h (HO0.out.1 k))])
      have hE2 : E = pF (uD o) o (ordI o) 0 0 0 0 0 (W.drop 1) := by rw [pF_K0, hE]
      have hL2 : ordI o = ordL (uA o) (uB o) (uC o) (uD o) (uK o) := rfl
      have hON : o = 0 → ordI o = [] := fun h => ordI_no (by omega)
      have hmem := ordI_mem o
      have hLl := ordI_len o
      have hhas := fun x => rhas_any o x
      obtain ⟨e1, e2, e3, e4, e5⟩ := hs_in o
      have hz := hs_size o
      have mA := fun x => rin_any (hs o) 65 (by omega) x
      have mB := fun x => rin_any (hs o) 66 (by omega) x
      have mC := fun x => rin_any (hs o) 67 (by omega) x
      have mD := fun x => rin_any (hs o) 68 (by omega) x
      have mK := fun x => rin_any (hs o) 75 (by omega) x
      rw [e1] at mA
      rw [e2] at mB
      rw [e3] at mC
      rw [e4] at mD
      rw [e5] at mK
      clear e1 e2 e3 e4 e5 hz hE HK HO0
      generalize hs o = H at hhas mA mB mC mD mK
      generalize ordI o = L at hE2 hL2 hON hmem hLl
      generalize uA o = hA at hL2 mA
      generalize uB o = hB at hL2 mB
      generalize uC o = cC at hL2 mC
      generalize uD o = dD at hL2 hE2 mD
      generalize uK o = kK at hL2 mK
      have HE := Lib.hid hE2
      have HL2 := Lib.hid hL2
      have HON := Lib.hid hON
      have HMEM := Lib.hid hmem
      clear hE2 hL2 hON hmem
      have mA : ∀ x, Calls Tryd.prog 28 #[.string H, .int .u8 65] x fun e w' => e = .returned (.bool hA) ∧ x = w' := mA
      have mB : ∀ x, Calls Tryd.prog 28 #[.string H, .int .u8 66] x fun e w' => e = .returned (.bool hB) ∧ x = w' := mB
      have mC : ∀ x, Calls Tryd.prog 28 #[.string H, .int .u8 67] x fun e w' => e = .returned (.bool cC) ∧ x = w' := mC
      have mD : ∀ x, Calls Tryd.prog 28 #[.string H, .int .u8 68] x fun e w' => e = .returned (.bool dD) ∧ x = w' := mD
      have mK : ∀ x, Calls Tryd.prog 28 #[.string H, .int .u8 75] x fun e w' => e = .returned (.bool kK) ∧ x = w' := mK
      obtain ⟨c0, c1, c2, c3, c4, c5⟩ := ins_cells st.iv
      simp only at c0 c1 c2 c3 c4 c5
      go_wp2_with fail
      refine (hhas _).mono ?_
      rintro e w4 ⟨rfl, rfl⟩
      clear hhas c0 c1 c2 c3 c4 c5
      obtain ⟨wo, rfl⟩ : ∃ wo : World, wo = wr := ⟨_, rfl⟩
      go_wp2_with fail
      go_loopw [8, 10] (fun v u wz => ∃ j : Nat, u = .int .i64 j ∧ v = .string (txB (ordJ hA hB cC dD kK j)) ∧ j ≤ 5 ∧ wo = wz) (fun _ u _ => 5 - (intOf u).toNat)
      case atStart => exact ⟨0, rfl, by rw [ordJ_zero]; rfl, by decide, rfl⟩
      case round =>
        obtain ⟨j, rfl, rfl, hj, rfl⟩ := hrel
        have HJL := Lib.hid (ordJ_len hA hB cC dD kK j)
        have hXz := txB_size (ordJ hA hB cC dD kK j)
        obtain ⟨X, hX⟩ : ∃ X, X = txB (ordJ hA hB cC dD kK j) := ⟨_, rfl⟩
        have hXs : X.size ≤ 5 := by rw [hX, hXz]; exact HJL.out
        rw [← hX]
        have HX := Lib.hid hX
        clear hX hXz HJL
        have hj2 : j = 0 ∨ j = 1 ∨ j = 2 ∨ j = 3 ∨ j = 4 ∨ j = 5 := by omega
        rcases hj2 with rfl | rfl | rfl | rfl | rfl | rfl
        · rcases bT hA with rfl | rfl
          · have HQ := Lib.hid (show X ++ txB [65] = txB (ordJ true hB cC dD kK 1) by
              have : ∀ hB cC dD kK : Bool, ordJ true hB cC dD kK 0 ++ [65] = ordJ true hB cC dD kK 1 := by decide
              rw [HX.out, tx_app, this])
            clear HX
            as_aux_lemma =>
              go_wp2_with fail
              refine (mA _).mono ?_
              rintro e w5 ⟨rfl, rfl⟩
              go_wp2_with fail
              go_roundw
              case rel => exact ⟨1, rfl, by rw [← HQ.out]; rfl, by decide, trivial⟩
              case measure => simp [intOf]
          · have HQ := Lib.hid (show X = txB (ordJ false hB cC dD kK 1) by
              have : ∀ hB cC dD kK : Bool, ordJ false hB cC dD kK 0 = ordJ false hB cC dD kK 1 := by decide
              rw [HX.out, this])
            clear HX
            as_aux_lemma =>
              go_wp2_with fail
              refine (mA _).mono ?_
              rintro e w5 ⟨rfl, rfl⟩
              go_wp2_with fail
              go_roundw
              case rel => exact ⟨1, rfl, by rw [← HQ.out], by decide, trivial⟩
              case measure => simp [intOf]
        · rcases bT hB with rfl | rfl
          · have HQ := Lib.hid (show X ++ txB [66] = txB (ordJ hA true cC dD kK 2) by
              have : ∀ hA cC dD kK : Bool, ordJ hA true cC dD kK 1 ++ [66] = ordJ hA true cC dD kK 2 := by decide
              rw [HX.out, tx_app, this])
            clear HX
            as_aux_lemma =>
              go_wp2_with fail
              refine (mB _).mono ?_
              rintro e w5 ⟨rfl, rfl⟩
              go_wp2_with fail
              go_roundw
              case rel => exact ⟨2, rfl, by rw [← HQ.out]; rfl, by decide, trivial⟩
              case measure => simp [intOf]
          · have HQ := Lib.hid (show X = txB (ordJ hA false cC dD kK 2) by
              have : ∀ hA cC dD kK : Bool, ordJ hA false cC dD kK 1 = ordJ hA false cC dD kK 2 := by decide
              rw [HX.out, this])
            clear HX
            as_aux_lemma =>
              go_wp2_with fail
              refine (mB _).mono ?_
              rintro e w5 ⟨rfl, rfl⟩
              go_wp2_with fail
              go_roundw
              case rel => exact ⟨2, rfl, by rw [← HQ.out], by decide, trivial⟩
              case measure => simp [intOf]
        · rcases bT dD with rfl | rfl
          · have HQ := Lib.hid (show X ++ txB [68] = txB (ordJ hA hB cC true kK 3) by
              have : ∀ hA hB cC kK : Bool, ordJ hA hB cC true kK 2 ++ [68] = ordJ hA hB cC true kK 3 := by decide
              rw [HX.out, tx_app, this])
            clear HX
            as_aux_lemma =>
              go_wp2_with fail
              refine (mD _).mono ?_
              rintro e w5 ⟨rfl, rfl⟩
              go_wp2_with fail
              go_roundw
              case rel => exact ⟨3, rfl, by rw [← HQ.out]; rfl, by decide, trivial⟩
              case measure => simp [intOf]
          · have HQ := Lib.hid (show X = txB (ordJ hA hB cC false kK 3) by
              have : ∀ hA hB cC kK : Bool, ordJ hA hB cC false kK 2 = ordJ hA hB cC false kK 3 := by decide
              rw [HX.out, this])
            clear HX
            as_aux_lemma =>
              go_wp2_with fail
              refine (mD _).mono ?_
              rintro e w5 ⟨rfl, rfl⟩
              go_wp2_with fail
              go_roundw
              case rel => exact ⟨3, rfl, by rw [← HQ.out], by decide, trivial⟩
              case measure => simp [intOf]
        · rcases bT cC with rfl | rfl
          · have HQ := Lib.hid (show X ++ txB [67] = txB (ordJ hA hB true dD kK 4) by
              have : ∀ hA hB dD kK : Bool, ordJ hA hB true dD kK 3 ++ [67] = ordJ hA hB true dD kK 4 := by decide
              rw [HX.out, tx_app, this])
            clear HX
            as_aux_lemma =>
              go_wp2_with fail
              refine (mC _).mono ?_
              rintro e w5 ⟨rfl, rfl⟩
              go_wp2_with fail
              go_roundw
              case rel => exact ⟨4, rfl, by rw [← HQ.out]; rfl, by decide, trivial⟩
              case measure => simp [intOf]
          · have HQ := Lib.hid (show X = txB (ordJ hA hB false dD kK 4) by
              have : ∀ hA hB dD kK : Bool, ordJ hA hB false dD kK 3 = ordJ hA hB false dD kK 4 := by decide
              rw [HX.out, this])
            clear HX
            as_aux_lemma =>
              go_wp2_with fail
              refine (mC _).mono ?_
              rintro e w5 ⟨rfl, rfl⟩
              go_wp2_with fail
              go_roundw
              case rel => exact ⟨4, rfl, by rw [← HQ.out], by decide, trivial⟩
              case measure => simp [intOf]
        · rcases bT kK with rfl | rfl
          · have HQ := Lib.hid (show X ++ txB [75] = txB (ordJ hA hB cC dD true 5) by
              have : ∀ hA hB cC dD : Bool, ordJ hA hB cC dD true 4 ++ [75] = ordJ hA hB cC dD true 5 := by decide
              rw [HX.out, tx_app, this])
            clear HX
            as_aux_lemma =>
              go_wp2_with fail
              refine (mK _).mono ?_
              rintro e w5 ⟨rfl, rfl⟩
              go_wp2_with fail
              go_roundw
              case rel => exact ⟨5, rfl, by rw [← HQ.out]; rfl, by decide, trivial⟩
              case measure => simp [intOf]
          · have HQ := Lib.hid (show X = txB (ordJ hA hB cC dD false 5) by
              have : ∀ hA hB cC dD : Bool, ordJ hA hB cC dD false 4 = ordJ hA hB cC dD false 5 := by decide
              rw [HX.out, this])
            clear HX
            as_aux_lemma =>
              go_wp2_with fail
              refine (mK _).mono ?_
              rintro e w5 ⟨rfl, rfl⟩
              go_wp2_with fail
              go_roundw
              case rel => exact ⟨5, rfl, by rw [← HQ.out], by decide, trivial⟩
              case measure => simp [intOf]
        · rw [show ((5 : Nat) : Int) = 5 from rfl]
          have HXL := Lib.hid (show X = txB L by rw [HX.out, ordJ_five, ← HL2.out])
          have hXl : X.size = L.length := by rw [HXL.out, txB_size]
          have HXZ := Lib.hid hXl
          rw [hXl] at hXs
          clear HX hXl hj mA mB mC mK HL2
          have hmm := fun y x => rnum_any y x
          go_wp2_with fail
          go_loopw [11, 12] (fun u v wz => ∃ (k t a b c d kk : Nat), u = .int .i64 t ∧ v = .int .i64 k ∧ k ≤ L.length ∧ t ≤ n ∧ QP w r g x W ⟨o, a, b, c, d, kk⟩ wz ∧ a < 8 ∧ b < 8 ∧ c < 8 ∧ d < 3 ∧ kk < 4294967296 ∧ Hid (E = pF dD o (L.drop k) a b c d kk (W.drop t))) (fun _ v _ => L.length - (intOf v).toNat)
          case atStart => exact ⟨0, 1, 0, 0, 0, 0, 0, rfl, rfl, Nat.zero_le _, hpos, st, by decide, by decide, by decide, by decide, by decide, HE⟩
          case round =>
            clear st
            obtain ⟨k, t, a, b, c, d, kk, rfl, rfl, hk, ht, st, ha, hb, hc, hd, hkk, HP⟩ := hrel
            by_cases hlt : k < L.length
            · have hkI : (k : Int) < L.length := by omega
              have h0k : (0 : Int) ≤ k := by omega
              have hkX : k < X.size := by rw [HXZ.out]; exact hlt
              have HDR := Lib.hid (show L.drop k = X[k] :: L.drop (k + 1) by
                have := List.drop_eq_getElem_cons (l := L) (i := k) hlt
                rw [this]
                congr 1
                have hx : X = txB L := HXL.out
                subst hx
                rfl)
              have hm := HMEM.out (X[k]) (List.mem_of_mem_drop (i := k) (by rw [HDR.out]; exact List.mem_cons_self))
              rw [← HXZ.out] at hkI
              rcases hm with h9 | h9 | h9 | h9 | h9
              · have hxk : (X[k].toNat : Int) = 65 := by rw [h9]; rfl
                have q65 : ((X[k].toNat : Int) == 65) = true := by rw [hxk]; rfl
                have q66 : ((X[k].toNat : Int) == 66) = false := by rw [hxk]; rfl
                have q67 : ((X[k].toNat : Int) == 67) = false := by rw [hxk]; rfl
                have q68 : ((X[k].toNat : Int) == 68) = false := by rw [hxk]; rfl
                have q75 : ((X[k].toNat : Int) == 75) = false := by rw [hxk]; rfl
                have HDK := Lib.hid (show L.drop k = 65 :: L.drop (k + 1) by rw [HDR.out, h9])
                clear hxk h9 HDR
                by_cases htn : t < n
                · have htI : ¬ (n : Int) ≤ t := by omega
                  have htI2 : (t : Int) < n := by omega
                  have h0t : (0 : Int) ≤ t := by omega
                  have hcw := st.ws.cell (i := t) (by rw [← HN.out]; omega)
                  have HD2 := Lib.hid (drop_at (W := W) (j := t) (by rw [← HN.out]; omega))
                  have hwz := hsz t
                  have hmm2 : ∀ x, Calls Tryd.prog 40 #[.string (wsB W t)] x fun e w' => e = .returned (.int .i64 (rdI (W.getD t []))) ∧ Below x.heap.size x w' := fun x => hmm _ x
                  obtain ⟨y, hy⟩ : ∃ y, y = W.getD t [] := ⟨_, rfl⟩
                  rw [← hy] at hmm2
                  have HY := Lib.hid hy
                  clear hy
                  rcases Option.eq_none_or_eq_some (rdR y) with hr | ⟨v, hr⟩
                  · rw [rdI_none hr] at hmm2
                    have HNN := Lib.hid (show insE W = none by rw [HK2.out, HP.out, HDK.out, HD2.out, pF_65, ← HY.out, hr]; simp)
                    clear hr
                    go_wp2_with fail
                    refine (hmm2 _).mono ?_
                    rintro e wa ⟨rfl, hka⟩
                    have hPa := st.on hka
                    obtain ⟨c0, c1, c2, c3, c4, c5⟩ := ins_cells hPa.iv
                    simp only at c0 c1 c2 c3 c4 c5
                    have fz := frozen_blk hPa.iv 1
                    have hPb := hPa.st hrx hgx hwx (I' := ⟨o, -1, b, c, d, kk⟩) 1 (.int .i64 (-1)) rfl
                    go_upto_region 46 with fail
                    generalize wa.setCell ⟨x, 1, none⟩ (.int .i64 (-1)) = wb at hPb ⊢
                    clear c0 c1 c2 c3 c4 c5 fz
                    obtain ⟨⟨y0, y1, y2, y3, y4, y5⟩, f0, f1, f2, f3, f4, f5⟩ := hPb.rz.cells
                    go_wp2_with fail
                    exact bodyPost_ret (v := .tuple #[.agg #[.int .i64 0, .int .i64 0, .int .i64 0, .int .i64 0, .int .i64 0, .int .u32 0], .int .i64 3]) (by simp [results, Tryd.results14, go_sem, y0, y1, y2, y3, y4, y5]) rfl (HERR.out HNN.out (six_below hPb.bel hwr _ _ _ _ _ _))
                  · rw [rdI_some hr] at hmm2
                    have hv8 : v < 8 := (rdR_back hr).2
                    have HPN := Lib.hid (show E = pF dD o (L.drop (k + 1)) v b c d kk (W.drop (t + 1)) by rw [HP.out, HDK.out, HD2.out, pF_65, ← HY.out, hr]; rfl)
                    clear hr
                    go_wp2_with fail
                    refine (hmm2 _).mono ?_
                    rintro e wa ⟨rfl, hka⟩
                    have hPa := st.on hka
                    obtain ⟨c0, c1, c2, c3, c4, c5⟩ := ins_cells hPa.iv
                    simp only at c0 c1 c2 c3 c4 c5
                    have fz := frozen_blk hPa.iv 1
                    have hPb := hPa.st hrx hgx hwx (I' := ⟨o, v, b, c, d, kk⟩) 1 (.int .i64 (v : Nat)) rfl
                    go_wp2_with fail
                    go_roundw
                    case rel => exact ⟨k + 1, t + 1, v, b, c, d, kk, by go_num, by go_num, by omega, by omega, hPb, hv8, hb, hc, hd, hkk, HPN⟩
                    case measure => simp [intOf]; omega
                · have HTN := Lib.hid (show W.drop t = [] from List.drop_eq_nil_of_le (by rw [← HN.out]; omega))
                  have htI : (n : Int) ≤ t := by omega
                  have HNN := Lib.hid (show insE W = none by rw [HK2.out, HP.out, HDK.out, HTN.out, pF_lack (by intro h; exact absurd h.1 (by decide))]; simp)
                  obtain rfl : t = n := by omega
                  obtain ⟨⟨y0, y1, y2, y3, y4, y5⟩, f0, f1, f2, f3, f4, f5⟩ := st.rz.cells
                  go_wp2_with fail
                  exact bodyPost_ret (v := .tuple #[.agg #[.int .i64 0, .int .i64 0, .int .i64 0, .int .i64 0, .int .i64 0, .int .u32 0], .int .i64 3]) (by simp [results, Tryd.results14, go_sem, y0, y1, y2, y3, y4, y5]) rfl (HERR.out HNN.out (six_below st.bel hwr _ _ _ _ _ _))
              · have hxk : (X[k].toNat : Int) = 66 := by rw [h9]; rfl
                have q65 : ((X[k].toNat : Int) == 65) = false := by rw [hxk]; rfl
                have q66 : ((X[k].toNat : Int) == 66) = true := by rw [hxk]; rfl
                have q67 : ((X[k].toNat : Int) == 67) = false := by rw [hxk]; rfl
                have q68 : ((X[k].toNat : Int) == 68) = false := by rw [hxk]; rfl
                have q75 : ((X[k].toNat : Int) == 75) = false := by rw [hxk]; rfl
                have HDK := Lib.hid (show L.drop k = 66 :: L.drop (k + 1) by rw [HDR.out, h9])
                clear hxk h9 HDR
                by_cases htn : t < n
                · have htI : ¬ (n : Int) ≤ t := by omega
                  have htI2 : (t : Int) < n := by omega
                  have h0t : (0 : Int) ≤ t := by omega
                  have hcw := st.ws.cell (i := t) (by rw [← HN.out]; omega)
                  have HD2 := Lib.hid (drop_at (W := W) (j := t) (by rw [← HN.out]; omega))
                  have hwz := hsz t
                  have hmm2 : ∀ x, Calls Tryd.prog 40 #[.string (wsB W t)] x fun e w' => e = .returned (.int .i64 (rdI (W.getD t []))) ∧ Below x.heap.size x w' := fun x => hmm _ x
                  obtain ⟨y, hy⟩ : ∃ y, y = W.getD t [] := ⟨_, rfl⟩
                  rw [← hy] at hmm2
                  have HY := Lib.hid hy
                  clear hy
                  rcases Option.eq_none_or_eq_some (rdR y) with hr | ⟨v, hr⟩
                  · rw [rdI_none hr] at hmm2
                    have HNN := Lib.hid (show insE W = none by rw [HK2.out, HP.out, HDK.out, HD2.out, pF_66, ← HY.out, hr]; simp)
                    clear hr
                    go_wp2_with fail
                    refine (hmm2 _).mono ?_
                    rintro e wa ⟨rfl, hka⟩
                    have hPa := st.on hka
                    obtain ⟨c0, c1, c2, c3, c4, c5⟩ := ins_cells hPa.iv
                    simp only at c0 c1 c2 c3 c4 c5
                    have fz := frozen_blk hPa.iv 2
                    have hPb := hPa.st hrx hgx hwx (I' := ⟨o, a, -1, c, d, kk⟩) 2 (.int .i64 (-1)) rfl
                    go_upto_region 46 with fail
                    generalize wa.setCell ⟨x, 2, none⟩ (.int .i64 (-1)) = wb at hPb ⊢
                    clear c0 c1 c2 c3 c4 c5 fz
                    obtain ⟨⟨y0, y1, y2, y3, y4, y5⟩, f0, f1, f2, f3, f4, f5⟩ := hPb.rz.cells
                    go_wp2_with fail
                    exact bodyPost_ret (v := .tuple #[.agg #[.int .i64 0, .int .i64 0, .int .i64 0, .int .i64 0, .int .i64 0, .int .u32 0], .int .i64 3]) (by simp [results, Tryd.results14, go_sem, y0, y1, y2, y3, y4, y5]) rfl (HERR.out HNN.out (six_below hPb.bel hwr _ _ _ _ _ _))
                  · rw [rdI_some hr] at hmm2
                    have hv8 : v < 8 := (rdR_back hr).2
                    have HPN := Lib.hid (show E = pF dD o (L.drop (k + 1)) a v c d kk (W.drop (t + 1)) by rw [HP.out, HDK.out, HD2.out, pF_66, ← HY.out, hr]; rfl)
                    clear hr
                    go_wp2_with fail
                    refine (hmm2 _).mono ?_
                    rintro e wa ⟨rfl, hka⟩
                    have hPa := st.on hka
                    obtain ⟨c0, c1, c2, c3, c4, c5⟩ := ins_cells hPa.iv
                    simp only at c0 c1 c2 c3 c4 c5
                    have fz := frozen_blk hPa.iv 2
                    have hPb := hPa.st hrx hgx hwx (I' := ⟨o, a, v, c, d, kk⟩) 2 (.int .i64 (v : Nat)) rfl
                    go_wp2_with fail
                    go_roundw
                    case rel => exact ⟨k + 1, t + 1, a, v, c, d, kk, by go_num, by go_num, by omega, by omega, hPb, ha, hv8, hc, hd, hkk, HPN⟩
                    case measure => simp [intOf]; omega
                · have HTN := Lib.hid (show W.drop t = [] from List.drop_eq_nil_of_le (by rw [← HN.out]; omega))
                  have htI : (n : Int) ≤ t := by omega
                  have HNN := Lib.hid (show insE W = none by rw [HK2.out, HP.out, HDK.out, HTN.out, pF_lack (by intro h; exact absurd h.1 (by decide))]; simp)
                  obtain rfl : t = n := by omega
                  obtain ⟨⟨y0, y1, y2, y3, y4, y5⟩, f0, f1, f2, f3, f4, f5⟩ := st.rz.cells
                  go_wp2_with fail
                  exact bodyPost_ret (v := .tuple #[.agg #[.int .i64 0, .int .i64 0, .int .i64 0, .int .i64 0, .int .i64 0, .int .u32 0], .int .i64 3]) (by simp [results, Tryd.results14, go_sem, y0, y1, y2, y3, y4, y5]) rfl (HERR.out HNN.out (six_below st.bel hwr _ _ _ _ _ _))
              · have hxk : (X[k].toNat : Int) = 67 := by rw [h9]; rfl
                have q65 : ((X[k].toNat : Int) == 65) = false := by rw [hxk]; rfl
                have q66 : ((X[k].toNat : Int) == 66) = false := by rw [hxk]; rfl
                have q67 : ((X[k].toNat : Int) == 67) = true := by rw [hxk]; rfl
                have q68 : ((X[k].toNat : Int) == 68) = false := by rw [hxk]; rfl
                have q75 : ((X[k].toNat : Int) == 75) = false := by rw [hxk]; rfl
                have HDK := Lib.hid (show L.drop k = 67 :: L.drop (k + 1) by rw [HDR.out, h9])
                clear hxk h9 HDR
                obtain ⟨c0, c1, c2, c3, c4, c5⟩ := ins_cells st.iv
                simp only at c0 c1 c2 c3 c4 c5
                go_wp2_with fail
                refine (mD _).mono ?_
                rintro e w5 ⟨rfl, rfl⟩
                rcases bT dD with rfl | rfl
                · by_cases hd2 : d ≠ 2
                  · have d2n : ((d : Int) != 2) = true := by rw [bne_iff_ne]; omega
                    have HPN := Lib.hid (show E = pF true o (L.drop (k + 1)) a b c d kk (W.drop t) by rw [HP.out, HDK.out, pF_skip rfl hd2])
                    clear hd2
                    go_wp2_with fail
                    go_roundw
                    case rel => exact ⟨k + 1, t, a, b, c, d, kk, rfl, by go_num, by omega, ht, st, ha, hb, hc, hd, hkk, HPN⟩
                    case measure => simp [intOf]; omega
                  · have d2n : ((d : Int) != 2) = false := by rw [show d = 2 by omega]; rfl
                    have HCC := Lib.hid (show ¬ (true = true ∧ d ≠ 2) from fun q => hd2 q.2)
                    clear hd2 c0 c1 c2 c3
                    by_cases htn : t < n
                    · have htI : ¬ (n : Int) ≤ t := by omega
                      have htI2 : (t : Int) < n := by omega
                      have h0t : (0 : Int) ≤ t := by omega
                      have hcw := st.ws.cell (i := t) (by rw [← HN.out]; omega)
                      have HD2 := Lib.hid (drop_at (W := W) (j := t) (by rw [← HN.out]; omega))
                      have hwz := hsz t
                      have hmm2 : ∀ x, Calls Tryd.prog 40 #[.string (wsB W t)] x fun e w' => e = .returned (.int .i64 (rdI (W.getD t []))) ∧ Below x.heap.size x w' := fun x => hmm _ x
                      obtain ⟨y, hy⟩ : ∃ y, y = W.getD t [] := ⟨_, rfl⟩
                      rw [← hy] at hmm2
                      have HY := Lib.hid hy
                      clear hy
                      rcases Option.eq_none_or_eq_some (rdR y) with hr | ⟨v, hr⟩
                      · rw [rdI_none hr] at hmm2
                        have HNN := Lib.hid (show insE W = none by rw [HK2.out, HP.out, HDK.out, HD2.out, pF_67 HCC.out, ← HY.out, hr]; simp)
                        clear hr
                        go_wp2_with fail
                        refine (hmm2 _).mono ?_
                        rintro e wa ⟨rfl, hka⟩
                        have hPa := st.on hka
                        obtain ⟨c0, c1, c2, c3, c4, c5⟩ := ins_cells hPa.iv
                        simp only at c0 c1 c2 c3 c4 c5
                        have fz := frozen_blk hPa.iv 3
                        have hPb := hPa.st hrx hgx hwx (I' := ⟨o, a, b, -1, d, kk⟩) 3 (.int .i64 (-1)) rfl
                        go_upto_region 46 with fail
                        generalize wa.setCell ⟨x, 3, none⟩ (.int .i64 (-1)) = wb at hPb ⊢
                        clear c0 c1 c2 c3 c4 c5 fz
                        obtain ⟨⟨y0, y1, y2, y3, y4, y5⟩, f0, f1, f2, f3, f4, f5⟩ := hPb.rz.cells
                        go_wp2_with fail
                        exact bodyPost_ret (v := .tuple #[.agg #[.int .i64 0, .int .i64 0, .int .i64 0, .int .i64 0, .int .i64 0, .int .u32 0], .int .i64 3]) (by simp [results, Tryd.results14, go_sem, y0, y1, y2, y3, y4, y5]) rfl (HERR.out HNN.out (six_below hPb.bel hwr _ _ _ _ _ _))
                      · rw [rdI_some hr] at hmm2
                        have hv8 : v < 8 := (rdR_back hr).2
                        have HPN := Lib.hid (show E = pF true o (L.drop (k + 1)) a b v d kk (W.drop (t + 1)) by rw [HP.out, HDK.out, HD2.out, pF_67 HCC.out, ← HY.out, hr]; rfl)
                        clear hr
                        go_wp2_with fail
                        refine (hmm2 _).mono ?_
                        rintro e wa ⟨rfl, hka⟩
                        have hPa := st.on hka
                        obtain ⟨c0, c1, c2, c3, c4, c5⟩ := ins_cells hPa.iv
                        simp only at c0 c1 c2 c3 c4 c5
                        have fz := frozen_blk hPa.iv 3
                        have hPb := hPa.st hrx hgx hwx (I' := ⟨o, a, b, v, d, kk⟩) 3 (.int .i64 (v : Nat)) rfl
                        go_wp2_with fail
                        go_roundw
                        case rel => exact ⟨k + 1, t + 1, a, b, v, d, kk, by go_num, by go_num, by omega, by omega, hPb, ha, hb, hv8, hd, hkk, HPN⟩
                        case measure => simp [intOf]; omega
                    · have HTN := Lib.hid (show W.drop t = [] from List.drop_eq_nil_of_le (by rw [← HN.out]; omega))
                      have htI : (n : Int) ≤ t := by omega
                      have HNN := Lib.hid (show insE W = none by rw [HK2.out, HP.out, HDK.out, HTN.out, pF_lack (fun q => HCC.out q.2)]; simp)
                      obtain rfl : t = n := by omega
                      obtain ⟨⟨y0, y1, y2, y3, y4, y5⟩, f0, f1, f2, f3, f4, f5⟩ := st.rz.cells
                      go_wp2_with fail
                      exact bodyPost_ret (v := .tuple #[.agg #[.int .i64 0, .int .i64 0, .int .i64 0, .int .i64 0, .int .i64 0, .int .u32 0], .int .i64 3]) (by simp [results, Tryd.results14, go_sem, y0, y1, y2, y3, y4, y5]) rfl (HERR.out HNN.out (six_below st.bel hwr _ _ _ _ _ _))
                · have HCC := Lib.hid (show ¬ (false = true ∧ d ≠ 2) from fun q => absurd q.1 (by decide))
                  clear c0 c1 c2 c3 c4 c5
                  by_cases htn : t < n
                  · have htI : ¬ (n : Int) ≤ t := by omega
                    have htI2 : (t : Int) < n := by omega
                    have h0t : (0 : Int) ≤ t := by omega
                    have hcw := st.ws.cell (i := t) (by rw [← HN.out]; omega)
                    have HD2 := Lib.hid (drop_at (W := W) (j := t) (by rw [← HN.out]; omega))
                    have hwz := hsz t
                    have hmm2 : ∀ x, Calls Tryd.prog 40 #[.string (wsB W t)] x fun e w' => e = .returned (.int .i64 (rdI (W.getD t []))) ∧ Below x.heap.size x w' := fun x => hmm _ x
                    obtain ⟨y, hy⟩ : ∃ y, y = W.getD t [] := ⟨_, rfl⟩
                    rw [← hy] at hmm2
                    have HY := Lib.hid hy
                    clear hy
                    rcases Option.eq_none_or_eq_some (rdR y) with hr | ⟨v, hr⟩
                    · rw [rdI_none hr] at hmm2
                      have HNN := Lib.hid (show insE W = none by rw [HK2.out, HP.out, HDK.out, HD2.out, pF_67 HCC.out, ← HY.out, hr]; simp)
                      clear hr
                      go_wp2_with fail
                      refine (hmm2 _).mono ?_
                      rintro e wa ⟨rfl, hka⟩
                      have hPa := st.on hka
                      obtain ⟨c0, c1, c2, c3, c4, c5⟩ := ins_cells hPa.iv
                      simp only at c0 c1 c2 c3 c4 c5
                      have fz := frozen_blk hPa.iv 3
                      have hPb := hPa.st hrx hgx hwx (I' := ⟨o, a, b, -1, d, kk⟩) 3 (.int .i64 (-1)) rfl
                      go_upto_region 46 with fail
                      generalize wa.setCell ⟨x, 3, none⟩ (.int .i64 (-1)) = wb at hPb ⊢
                      clear c0 c1 c2 c3 c4 c5 fz
                      obtain ⟨⟨y0, y1, y2, y3, y4, y5⟩, f0, f1, f2, f3, f4, f5⟩ := hPb.rz.cells
                      go_wp2_with fail
                      exact bodyPost_ret (v := .tuple #[.agg #[.int .i64 0, .int .i64 0, .int .i64 0, .int .i64 0, .int .i64 0, .int .u32 0], .int .i64 3]) (by simp [results, Tryd.results14, go_sem, y0, y1, y2, y3, y4, y5]) rfl (HERR.out HNN.out (six_below hPb.bel hwr _ _ _ _ _ _))
                    · rw [rdI_some hr] at hmm2
                      have hv8 : v < 8 := (rdR_back hr).2
                      have HPN := Lib.hid (show E = pF false o (L.drop (k + 1)) a b v d kk (W.drop (t + 1)) by rw [HP.out, HDK.out, HD2.out, pF_67 HCC.out, ← HY.out, hr]; rfl)
                      clear hr
                      go_wp2_with fail
                      refine (hmm2 _).mono ?_
                      rintro e wa ⟨rfl, hka⟩
                      have hPa := st.on hka
                      obtain ⟨c0, c1, c2, c3, c4, c5⟩ := ins_cells hPa.iv
                      simp only at c0 c1 c2 c3 c4 c5
                      have fz := frozen_blk hPa.iv 3
                      have hPb := hPa.st hrx hgx hwx (I' := ⟨o, a, b, v, d, kk⟩) 3 (.int .i64 (v : Nat)) rfl
                      go_wp2_with fail
                      go_roundw
                      case rel => exact ⟨k + 1, t + 1, a, b, v, d, kk, by go_num, by go_num, by omega, by omega, hPb, ha, hb, hv8, hd, hkk, HPN⟩
                      case measure => simp [intOf]; omega
                  · have HTN := Lib.hid (show W.drop t = [] from List.drop_eq_nil_of_le (by rw [← HN.out]; omega))
                    have htI : (n : Int) ≤ t := by omega
                    have HNN := Lib.hid (show insE W = none by rw [HK2.out, HP.out, HDK.out, HTN.out, pF_lack (fun q => HCC.out q.2)]; simp)
                    obtain rfl : t = n := by omega
                    obtain ⟨⟨y0, y1, y2, y3, y4, y5⟩, f0, f1, f2, f3, f4, f5⟩ := st.rz.cells
                    go_wp2_with fail
                    exact bodyPost_ret (v := .tuple #[.agg #[.int .i64 0, .int .i64 0, .int .i64 0, .int .i64 0, .int .i64 0, .int .u32 0], .int .i64 3]) (by simp [results, Tryd.results14, go_sem, y0, y1, y2, y3, y4, y5]) rfl (HERR.out HNN.out (six_below st.bel hwr _ _ _ _ _ _))
              · have hxk : (X[k].toNat : Int) = 68 := by rw [h9]; rfl
                have q65 : ((X[k].toNat : Int) == 65) = false := by rw [hxk]; rfl
                have q66 : ((X[k].toNat : Int) == 66) = false := by rw [hxk]; rfl
                have q67 : ((X[k].toNat : Int) == 67) = false := by rw [hxk]; rfl
                have q68 : ((X[k].toNat : Int) == 68) = true := by rw [hxk]; rfl
                have q75 : ((X[k].toNat : Int) == 75) = false := by rw [hxk]; rfl
                have HDK := Lib.hid (show L.drop k = 68 :: L.drop (k + 1) by rw [HDR.out, h9])
                clear hxk h9 HDR
                by_cases htn : t < n
                · have htI : ¬ (n : Int) ≤ t := by omega
                  have htI2 : (t : Int) < n := by omega
                  have h0t : (0 : Int) ≤ t := by omega
                  have hcw := st.ws.cell (i := t) (by rw [← HN.out]; omega)
                  have HD2 := Lib.hid (drop_at (W := W) (j := t) (by rw [← HN.out]; omega))
                  have hwz := hsz t
                  have hmm2 : ∀ x, Calls Tryd.prog 40 #[.string (wsB W t)] x fun e w' => e = .returned (.int .i64 (rdI (W.getD t []))) ∧ Below x.heap.size x w' := fun x => hmm _ x
                  obtain ⟨y, hy⟩ : ∃ y, y = W.getD t [] := ⟨_, rfl⟩
                  have HWY := Lib.hid (show wsB W t = txB y by rw [hy]; rfl)
                  rw [← hy] at hmm2
                  have HY := Lib.hid hy
                  clear hy
                  go_wp2_with fail
                  refine (hmm2 _).mono ?_
                  rintro e wa ⟨rfl, hka⟩
                  clear hmm2
                  have hPa := st.on hka
                  clear st hka hcw
                  go_upto_block 7 with fail
                  go_cut [14] (fun u wx => u = .int .i64 (nD (wsB W t) 3) ∧ QP w r g x W ⟨o, a, b, c, d, kk⟩ wx)
                  case first =>
                    go_wp2_with fail
                    go_loopw [14, 15] (fun v u wx => ∃ j : Nat, u = .int .i64 j ∧ v = .int .i64 (nD (wsB W t) j) ∧ j ≤ 3 ∧ QP w r g x W ⟨o, a, b, c, d, kk⟩ wx) (fun _ u _ => 3 - (intOf u).toNat)
                    case atStart => exact ⟨0, rfl, rfl, by decide, hPa⟩
                    case round =>
                      obtain ⟨j, rfl, rfl, hj, hPx⟩ := hrel
                      clear hPa
                      by_cases hlt3 : j < 3
                      · have hjI : (j : Int) < 3 := by omega
                        have hcx := hPx.ws.cell (i := t) (by rw [← HN.out]; omega)
                        have hmd : ∀ a, Calls Tryd.prog 31 #[.int .i64 j] (wr.drewN a) (fun e w'' => e = .returned (.string (mdB j)) ∧ ∃ m, w'' = wr.drewN m) := fun a => (rmode_any j _).mono fun e w' h => ⟨h.1, a, h.2.symm⟩
                        have HST := Lib.hid (show nD (wsB W t) (j + 1) = if mdB j = wsB W t then (j : Int) else nD (wsB W t) j from rfl)
                        by_cases hX : mdB j = wsB W t
                        · have hcmp := ba_eq hX
                          have HQ := Lib.hid (show nD (wsB W t) (j + 1) = j by rw [HST.out, if_pos hX])
                          clear hX HST
                          go_wp2_with fail
                          go_quiet (exact hmd _)
                          go_wp2_with fail
                          go_roundw
                          case rel => exact ⟨j + 1, by go_num, by rw [HQ.out], by omega, hPx.on (drewN_bel _ _)⟩
                          case measure => simp [intOf]; omega
                        · have hcmp := ba_ne hX
                          have HQ := Lib.hid (show nD (wsB W t) (j + 1) = nD (wsB W t) j by rw [HST.out, if_neg hX])
                          clear hX HST
                          go_wp2_with fail
                          go_quiet (exact hmd _)
                          go_wp2_with fail
                          go_roundw
                          case rel => exact ⟨j + 1, by go_num, by rw [HQ.out], by omega, hPx.on (drewN_bel _ _)⟩
                          case measure => simp [intOf]; omega
                      · obtain rfl : j = 3 := by omega
                        go_wp2_with fail
                        go_meet
                        exact ⟨rfl, hPx⟩
                  case rest =>
                    obtain ⟨rfl, hPc⟩ := hcut
                    clear hPa
                    rw [HWY.out]
                    rcases Option.eq_none_or_eq_some (rdD y) with hr | ⟨v, hr⟩
                    · rw [nD_no hr]
                      have HNN := Lib.hid (show insE W = none by rw [HK2.out, HP.out, HDK.out, HD2.out, pF_68, ← HY.out, hr]; simp)
                      clear hr
                      obtain ⟨c0, c1, c2, c3, c4, c5⟩ := ins_cells hPc.iv
                      simp only at c0 c1 c2 c3 c4 c5
                      have fz := frozen_blk hPc.iv 4
                      have hPb := hPc.st hrx hgx hwx (I' := ⟨o, a, b, c, -1, kk⟩) 4 (.int .i64 (-1)) rfl
                      go_upto_region 46 with fail
                      generalize wc.setCell ⟨x, 4, none⟩ (.int .i64 (-1)) = wb at hPb ⊢
                      clear c0 c1 c2 c3 c4 c5 fz
                      obtain ⟨⟨y0, y1, y2, y3, y4, y5⟩, f0, f1, f2, f3, f4, f5⟩ := hPb.rz.cells
                      go_wp2_with fail
                      exact bodyPost_ret (v := .tuple #[.agg #[.int .i64 0, .int .i64 0, .int .i64 0, .int .i64 0, .int .i64 0, .int .u32 0], .int .i64 3]) (by simp [results, Tryd.results14, go_sem, y0, y1, y2, y3, y4, y5]) rfl (HERR.out HNN.out (six_below hPb.bel hwr _ _ _ _ _ _))
                    · rw [nD_hit hr]
                      have hv3 : v < 3 := (rdD_back hr).2
                      have HPN := Lib.hid (show E = pF dD o (L.drop (k + 1)) a b c v kk (W.drop (t + 1)) by rw [HP.out, HDK.out, HD2.out, pF_68, ← HY.out, hr]; rfl)
                      clear hr
                      obtain ⟨c0, c1, c2, c3, c4, c5⟩ := ins_cells hPc.iv
                      simp only at c0 c1 c2 c3 c4 c5
                      have fz := frozen_blk hPc.iv 4
                      have hPb := hPc.st hrx hgx hwx (I' := ⟨o, a, b, c, v, kk⟩) 4 (.int .i64 (v : Nat)) rfl
                      go_wp2_with fail
                      go_roundw
                      case rel => exact ⟨k + 1, t + 1, a, b, c, v, kk, by go_num, by go_num, by omega, by omega, hPb, ha, hb, hc, hv3, hkk, HPN⟩
                      case measure => simp [intOf]; omega
                · have HTN := Lib.hid (show W.drop t = [] from List.drop_eq_nil_of_le (by rw [← HN.out]; omega))
                  have htI : (n : Int) ≤ t := by omega
                  have HNN := Lib.hid (show insE W = none by rw [HK2.out, HP.out, HDK.out, HTN.out, pF_lack (by intro h; exact absurd h.1 (by decide))]; simp)
                  obtain rfl : t = n := by omega
                  obtain ⟨⟨y0, y1, y2, y3, y4, y5⟩, f0, f1, f2, f3, f4, f5⟩ := st.rz.cells
                  go_wp2_with fail
                  exact bodyPost_ret (v := .tuple #[.agg #[.int .i64 0, .int .i64 0, .int .i64 0, .int .i64 0, .int .i64 0, .int .u32 0], .int .i64 3]) (by simp [results, Tryd.results14, go_sem, y0, y1, y2, y3, y4, y5]) rfl (HERR.out HNN.out (six_below st.bel hwr _ _ _ _ _ _))
              · have hxk : (X[k].toNat : Int) = 75 := by rw [h9]; rfl
                have q65 : ((X[k].toNat : Int) == 65) = false := by rw [hxk]; rfl
                have q66 : ((X[k].toNat : Int) == 66) = false := by rw [hxk]; rfl
                have q67 : ((X[k].toNat : Int) == 67) = false := by rw [hxk]; rfl
                have q68 : ((X[k].toNat : Int) == 68) = false := by rw [hxk]; rfl
                have q75 : ((X[k].toNat : Int) == 75) = true := by rw [hxk]; rfl
                have HDK := Lib.hid (show L.drop k = 75 :: L.drop (k + 1) by rw [HDR.out, h9])
                clear hxk h9 HDR
                by_cases htn : t < n
                · have htI : ¬ (n : Int) ≤ t := by omega
                  have htI2 : (t : Int) < n := by omega
                  have h0t : (0 : Int) ≤ t := by omega
                  have hcw := st.ws.cell (i := t) (by rw [← HN.out]; omega)
                  have HD2 := Lib.hid (drop_at (W := W) (j := t) (by rw [← HN.out]; omega))
                  have hwz := hsz t
                  have hmm2 : ∀ x, Calls Tryd.prog 40 #[.string (wsB W t)] x fun e w' => e = .returned (.int .i64 (rdI (W.getD t []))) ∧ Below x.heap.size x w' := fun x => hmm _ x
                  obtain ⟨bk, hbk⟩ : ∃ b, (numP 32 (W.getD t [])).isSome = b := ⟨_, rfl⟩
                  have m1 := fun x => rnum_w W t 32 4294967295 (by decide) (by decide) (by decide) (by decide) (by decide) bk hbk (by omega) x
                  have HBK := Lib.hid hbk
                  clear hbk
                  go_wp2_with fail
                  refine (hmm2 _).mono ?_
                  rintro e wa ⟨rfl, hka⟩
                  clear hmm2
                  have hPa := st.on hka
                  clear st hka hcw
                  have hcw := hPa.ws.cell (i := t) (by rw [← HN.out]; omega)
                  go_wp2_with fail
                  refine (m1 _).mono ?_
                  rintro e wb ⟨u, rfl, HU, rfl⟩
                  clear m1 hcw
                  have hu := HU.out.2
                  obtain ⟨c0, c1, c2, c3, c4, c5⟩ := ins_cells hPa.iv
                  simp only at c0 c1 c2 c3 c4 c5
                  have fz := frozen_blk hPa.iv 5
                  rcases bT bk with rfl | rfl
                  · obtain ⟨v, hv⟩ := Option.isSome_iff_exists.1 HBK.out
                    obtain rfl : u = v := HU.out.1 v hv
                    have hu4 : u < 4294967296 := by simpa using numP_lt (by decide) hv
                    have HPN := Lib.hid (show E = pF dD o (L.drop (k + 1)) a b c d u (W.drop (t + 1)) by rw [HP.out, HDK.out, HD2.out, pF_75, hv]; rfl)
                    clear hv HU HBK
                    have hPb := hPa.st hrx hgx hwx (I' := ⟨o, a, b, c, d, u⟩) 5 (.int .u32 (u : Nat)) rfl
                    go_wp2_with fail
                    go_roundw
                    case rel => exact ⟨k + 1, t + 1, a, b, c, d, u, by go_num, by go_num, by omega, by omega, hPb, ha, hb, hc, hd, hu4, HPN⟩
                    case measure => simp [intOf]; omega
                  · have HNN := Lib.hid (show insE W = none by rw [HK2.out, HP.out, HDK.out, HD2.out, pF_75, show numP 32 (W.getD t []) = none by have := HBK.out; cases h : numP 32 (W.getD t []) with | none => rfl | some v => rw [h] at this; cases this]; simp)
                    clear HU HBK
                    have hPb := hPa.st hrx hgx hwx (I' := ⟨o, a, b, c, d, u % 4294967296⟩) 5 (.int .u32 ((u % 4294967296 : Nat) : Int)) rfl
                    have hcm : ((u % 4294967296 : Nat) : Int) = (u : Int) % 4294967296 := by omega
                    rw [hcm] at hPb
                    clear hcm
                    go_upto_region 46 with fail
                    generalize wa.setCell ⟨x, 5, none⟩ (.int .u32 ((u : Int) % 4294967296)) = wb at hPb ⊢
                    clear c0 c1 c2 c3 c4 c5 fz
                    obtain ⟨⟨y0, y1, y2, y3, y4, y5⟩, f0, f1, f2, f3, f4, f5⟩ := hPb.rz.cells
                    go_wp2_with fail
                    exact bodyPost_ret (v := .tuple #[.agg #[.int .i64 0, .int .i64 0, .int .i64 0, .int .i64 0, .int .i64 0, .int .u32 0], .int .i64 3]) (by simp [results, Tryd.results14, go_sem, y0, y1, y2, y3, y4, y5]) rfl (HERR.out HNN.out (six_below hPb.bel hwr _ _ _ _ _ _))
                · have HTN := Lib.hid (show W.drop t = [] from List.drop_eq_nil_of_le (by rw [← HN.out]; omega))
                  have htI : (n : Int) ≤ t := by omega
                  have HNN := Lib.hid (show insE W = none by rw [HK2.out, HP.out, HDK.out, HTN.out, pF_lack (by intro h; exact absurd h.1 (by decide))]; simp)
                  obtain rfl : t = n := by omega
                  obtain ⟨⟨y0, y1, y2, y3, y4, y5⟩, f0, f1, f2, f3, f4, f5⟩ := st.rz.cells
                  go_wp2_with fail
                  exact bodyPost_ret (v := .tuple #[.agg #[.int .i64 0, .int .i64 0, .int .i64 0, .int .i64 0, .int .i64 0, .int .u32 0], .int .i64 3]) (by simp [results, Tryd.results14, go_sem, y0, y1, y2, y3, y4, y5]) rfl (HERR.out HNN.out (six_below st.bel hwr _ _ _ _ _ _))
            · have hkI : ¬ (k : Int) < X.size := by rw [HXZ.out]; omega
              have HPF := Lib.hid (show E = if W.drop t = [] then some ⟨o, a, b, c, d, kk⟩ else none by rw [HP.out, List.drop_eq_nil_of_le (by omega), pF_nil])
              clear HP hk hlt
              obtain ⟨c0, c1, c2, c3, c4, c5⟩ := ins_cells st.iv
              simp only at c0 c1 c2 c3 c4 c5
              obtain ⟨⟨y0, y1, y2, y3, y4, y5⟩, f0, f1, f2, f3, f4, f5⟩ := st.rz.cells
              by_cases ho : o = 0
              · have HNN := Lib.hid (show insE W = none by rw [HK2.out, if_pos ho])
                have do0 : (o == 0) = true := by rw [ho]; rfl
                clear ho
                go_wp2_with fail
                exact bodyPost_ret (v := .tuple #[.agg #[.int .i64 0, .int .i64 0, .int .i64 0, .int .i64 0, .int .i64 0, .int .u32 0], .int .i64 3]) (by simp [results, Tryd.results14, go_sem, y0, y1, y2, y3, y4, y5]) rfl (HERR.out HNN.out (six_below st.bel hwr _ _ _ _ _ _))
              · have do0 : (o == 0) = false := beqF ho
                have HIE := Lib.hid (show insE W = E by rw [HK2.out, if_neg ho])
                clear ho
                by_cases htn : t = n
                · have HNN := Lib.hid (show insE W = some ⟨o, a, b, c, d, kk⟩ by rw [HIE.out, HPF.out, if_pos (List.drop_eq_nil_of_le (by rw [← HN.out]; omega))])
                  have dtn : ((t : Int) != n) = false := by rw [htn]; simp
                  clear htn ht
                  have hf := fun x => rform_any ⟨o, a, b, c, d, kk⟩ ⟨⟨by show _ ≤ o; omega, by show o ≤ _; omega⟩, ⟨by show _ ≤ (a : Int); omega, by show (a : Int) ≤ _; omega⟩, ⟨by show _ ≤ (b : Int); omega, by show (b : Int) ≤ _; omega⟩, ⟨by show _ ≤ (c : Int); omega, by show (c : Int) ≤ _; omega⟩, ⟨by show _ ≤ (d : Int); omega, by show (d : Int) ≤ _; omega⟩, hkk⟩ x
                  obtain ⟨ck, hcc⟩ : ∃ ck, ck = (Ins.mk o a b c d kk).chk := ⟨_, rfl⟩
                  rw [← hcc] at hf
                  simp only [Ins.val] at hf
                  have HC := Lib.hid hcc
                  clear hcc
                  go_wp2_with fail
                  refine (hf _).mono ?_
                  rintro e wz ⟨rfl, hkz⟩
                  have stz := st.on hkz
                  clear hkz c0 c1 c2 c3 c4 c5 y0 y1 y2 y3 y4 y5 f0 f1 f2 f3 f4 f5 st
                  obtain ⟨c0, c1, c2, c3, c4, c5⟩ := ins_cells stz.iv
                  simp only at c0 c1 c2 c3 c4 c5
                  obtain ⟨⟨y0, y1, y2, y3, y4, y5⟩, f0, f1, f2, f3, f4, f5⟩ := stz.rz.cells
                  by_cases h0 : ck = 0
                  · have HC0 := Lib.hid h0
                    have d0 : (ck != 0) = false := by rw [h0]; rfl
                    clear h0
                    go_wp2_with fail
                    exact bodyPost_ret (v := .tuple #[.agg #[.int .i64 o, .int .i64 a, .int .i64 b, .int .i64 c, .int .i64 d, .int .u32 kk], .int .i64 0]) (by simp [results, Tryd.results14, go_sem, y0, y1, y2, y3, y4, y5]) rfl (HOKK.out _ HNN.out _ HC.out HC0.out _ _ (six_below stz.bel hwr _ _ _ _ _ _))
                  · have d0 : (ck != 0) = true := by rw [bne_iff_ne]; exact h0
                    have HC0 := Lib.hid h0
                    clear h0
                    go_wp2_with fail
                    exact bodyPost_ret (v := .tuple #[.agg #[.int .i64 0, .int .i64 0, .int .i64 0, .int .i64 0, .int .i64 0, .int .u32 0], .int .i64 ck]) (by simp [results, Tryd.results14, go_sem, y0, y1, y2, y3, y4, y5]) rfl (HNO.out _ HNN.out _ HC.out HC0.out _ _ (six_below stz.bel hwr _ _ _ _ _ _))
                · have HNN := Lib.hid (show insE W = none by rw [HIE.out, HPF.out, if_neg (by intro e; have := congrArg List.length e; rw [List.length_drop, ← HN.out] at this; simp at this; omega)])
                  have dtn : ((t : Int) != n) = true := by rw [bne_iff_ne]; omega
                  clear htn
                  go_wp2_with fail
                  exact bodyPost_ret (v := .tuple #[.agg #[.int .i64 0, .int .i64 0, .int .i64 0, .int .i64 0, .int .i64 0, .int .u32 0], .int .i64 3]) (by simp [results, Tryd.results14, go_sem, y0, y1, y2, y3, y4, y5]) rfl (HERR.out HNN.out (six_below st.bel hwr _ _ _ _ _ _))
end Go.Proofs.YtghfkpddkmaflaaDoor
