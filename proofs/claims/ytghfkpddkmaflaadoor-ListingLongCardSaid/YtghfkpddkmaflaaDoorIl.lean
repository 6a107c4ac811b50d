/- Contract of listing.Line. Conditions: the library's variables' data. -/
import Derived.Test.YtghfkpddkmaflaaDoorIg
import Derived.Test.YtghfkpddkmaflaaDoorLk
namespace Go.Proofs.YtghfkpddkmaflaaDoor
open Go Go.RowKit
set_option linter.unusedVariables false
set_option linter.unusedSimpArgs false
set_option maxRecDepth 20000
theorem join_joinW : ∀ L : List (List UInt8), Lib.join L [32] = joinW L
  | [] => rfl
  | [x] => by simp [Lib.join, joinW]
  | x :: y :: r => by
    have := join_joinW (y :: r)
    simp [Lib.join, joinW] at this ⊢
    rw [this]
theorem okB_facts {i : Ins} (h : i.chk = 0) : (1 ≤ i.o ∧ i.o ≤ 38) ∧ (uA i.o = true → 0 ≤ i.a ∧ i.a < 8) ∧ (uB i.o = true → 0 ≤ i.b ∧ i.b < 8) ∧ (uD i.o = true → 0 ≤ i.d ∧ i.d ≤ 2) ∧ (hC i.o i.d = true → 0 ≤ i.c ∧ i.c < 8) := by
  unfold Ins.chk at h
  split at h
  · rename_i h1
    split at h
    · rename_i h2
      unfold Ins.okB rgB at h2
      simp only [Bool.and_eq_true, decide_eq_true_eq] at h2
      exact ⟨by simpa [isI] using h1, fun _ => ⟨h2.1.1.1, h2.1.1.2.1⟩, fun _ => ⟨h2.1.2.1.1, h2.1.2.1.2.1⟩, fun _ => ⟨h2.2.1.1, h2.2.1.2.1⟩, fun _ => ⟨h2.1.2.2.1, h2.1.2.2.2.1⟩⟩
    · exact absurd h (by decide)
  · exact absurd h (by decide)
theorem us_vals (o : Int) : us o = 17 ∨ us o = 3 ∨ us o = 19 ∨ us o = 16 ∨ us o = 1 ∨ us o = 31 ∨ us o = 21 ∨ us o = 29 ∨ us o = 5 ∨ us o = 7 ∨ us o = 0 := by
  unfold us
  repeat' split
  all_goals simp
theorem uD_uC {o : Int} (h : uD o = true) : uC o = true := by
  unfold uD at h
  unfold uC
  rcases us_vals o with e | e | e | e | e | e | e | e | e | e | e <;> (rw [e] at h ⊢; revert h; decide)
theorem own_below {w w' : World} {base : Nat} {e : TypeId} {size : Nat} {v : Value} {n : Nat} {xs : List Value} (h : w.ownsRow base e size v n xs) (k : Below w.heap.size w w') : w'.ownsRow base e size v n xs := by
  rcases h.2 with h0 | ⟨g, cap, cur, rfl, hbg, hb, hr⟩
  · exact ⟨h.1, .inl h0⟩
  · exact ⟨h.1, .inr ⟨g, cap, cur, rfl, hbg, (k.block _ (blk_lt hb)).trans hb, hr⟩⟩
theorem WdS.on {w wr wx : World} {v : Value} {L : List (List UInt8)} (s : WdS w v L wr) (k : Below wr.heap.size wr wx) : WdS w v L wx := ⟨bel_next s.bel k, own_below s.own k⟩
theorem WdS.push {w w' : World} {ao : Option Addr} {cap : Nat} {L : List (List UInt8)} {x : List UInt8} (hB : Below w.heap.size w w') (h : w'.ownsRow w.heap.size 9 1 (.slice ao (L.length + 1) cap) (L.length + 1) (wv L ++ wv [x])) : WdS w (.slice ao (L.length + 1) cap) (L ++ [x]) w' := by
  refine ⟨hB, ?_⟩
  have : wv (L ++ [x]) = wv L ++ wv [x] := by simp [wv]
  rw [List.length_append, this]
  exact h
theorem md_ba (d : Int) : (⟨(mdB d).data.toList.toArray⟩ : ByteArray) = mdB d := by
  apply ByteArray.ext
  simp
theorem src_md (w : World) (d : Int) : Src (w.alloc (.cells #[.string (mdB d)] 9)) (.slice (some ⟨w.heap.size, 0, none⟩) 1 1) 1 (wv [(mdB d).data.toList]) := by
  have := src_one w (mdB d).data.toList
  rw [md_ba] at this
  exact this
/-- A line as Line answers it. -/
def lnB (i : Ins) : ByteArray := if i.chk = 0 then ⟨(lin i).toArray⟩ else ⟨#[]⟩
/-- A line's words that the code has laid: no more than n. -/
structure LW (w : World) (u : Value) (L M : List (List UInt8)) (n : Nat) (wr : World) : Prop where
  st : WdS w u L wr
  eq : Hid (L = M)
  ln : L.length ≤ n
theorem nm_ba (o : Int) : (⟨(inm o).data.toList.toArray⟩ : ByteArray) = inm o := by
  apply ByteArray.ext
  simp
theorem inm_len (o : Int) : (inm o).data.toList.length ≤ 6 := by
  by_cases h : isI o = true
  · have h2 : 1 ≤ o ∧ o ≤ 38 := by simpa [isI] using h
    obtain ⟨k, rfl⟩ : ∃ k : Nat, o = k := ⟨o.toNat, by omega⟩
    have : ∀ k : Nat, k < 39 → (inm k).data.toList.length ≤ 6 := by decide +kernel
    exact this k (by omega)
  · rw [inm_no (by simpa using h)]; decide
theorem joinW_len : ∀ L : List (List UInt8), (∀ x ∈ L, x.length ≤ 25) → (joinW L).length ≤ 26 * L.length
  | [], _ => Nat.le_refl _
  | [x], h => by
    have := h x List.mem_cons_self
    show x.length ≤ 26 * 1
    omega
  | x :: y :: r, h => by
    have h1 := h x List.mem_cons_self
    have h2 := joinW_len (y :: r) fun z hz => h z (List.mem_cons_of_mem _ hz)
    show (x ++ 32 :: joinW (y :: r)).length ≤ 26 * ((y :: r).length + 1)
    rw [List.length_append, List.length_cons]
    omega
theorem dig_len (k : Nat) (h : k < 18446744073709551616) : (Lib.decDigits k).length ≤ 20 := by
  have := DB_size k h
  have h2 : (DB k).size = (Lib.decDigits k).length := by show (Lib.decDigits k).toArray.size = _; simp
  omega
theorem linW_len (i : Ins) (hi : i.Wf) (hc : i.chk = 0) : ∀ x ∈ linW i, x.length ≤ 25 := by
  obtain ⟨_, ha, hb, hd, hcc⟩ := okB_facts hc
  have hr : ∀ n : Int, n < 8 → (rgL n).length ≤ 25 := fun n h => by
    have := dig_len n.toNat (by omega)
    show (Lib.decDigits n.toNat).length + 1 ≤ 25
    omega
  intro x hx
  unfold linW at hx
  rcases List.mem_cons.1 hx with rfl | hx
  · have := inm_len i.o; omega
  · rcases List.mem_append.1 hx with hx | hx
    · split at hx
      · rename_i h; rw [List.mem_singleton.1 hx]; exact hr _ (ha h).2
      · cases hx
    · rcases List.mem_append.1 hx with hx | hx
      · split at hx
        · rename_i h; rw [List.mem_singleton.1 hx]; exact hr _ (hb h).2
        · cases hx
      · rcases List.mem_append.1 hx with hx | hx
        · split at hx
          · rw [List.mem_singleton.1 hx]
            unfold mdB
            repeat' split
            all_goals decide
          · cases hx
        · rcases List.mem_append.1 hx with hx | hx
          · split at hx
            · rename_i h; rw [List.mem_singleton.1 hx]; exact hr _ (hcc h).2
            · cases hx
          · split at hx
            · have hk := hi.k
              rw [List.mem_singleton.1 hx]
              have := dig_len i.k (by omega)
              omega
            · cases hx
theorem linW_cnt (i : Ins) : (linW i).length ≤ 6 := by
  unfold linW
  repeat' split
  all_goals simp
/-- Join of a row that the code owns. -/
theorem join_any {w wr : World} {u : Value} {L : List (List UInt8)} (s : WdS w u L wr) (h1 : 1 ≤ L.length) (h2 : L.length ≤ 1000) (h3 : (joinW L).length ≤ 100000) : Calls Tryd.prog 26 #[u, .string ⟨#[32]⟩] wr fun e w' => e = .returned (.string ⟨(joinW L).toArray⟩) ∧ Below wr.heap.size wr w' := by
  obtain ⟨hb, hl, h⟩ := s
  rcases h with ⟨_, h0⟩ | ⟨g, cap, cur, rfl, hg, hh, hc, hm, hs, ht⟩
  · omega
  · have e1 : (L.map fun x => (⟨x.toArray⟩ : ByteArray)).length = L.length := by simp
    have e2 : ((L.map fun x => (⟨x.toArray⟩ : ByteArray)).map (·.data.toList)) = L := by rw [List.map_map]; exact (List.map_congr_left (fun x _ => rfl)).trans (List.map_id L)
    have := Tryd.strings_Join g 0 cap (L.map fun x => (⟨x.toArray⟩ : ByteArray)) ⟨#[32]⟩ wr (fun j x hj => by
      rw [Nat.zero_add, cell_blk hh]
      rw [Nat.mul_one] at hs ht
      have hj' : j < L.length := by
        have := List.getElem?_eq_some_iff.1 hj
        simpa using this.1
      have := congrArg (·[j]?) ht
      simp only [List.getElem?_take] at this
      rw [if_pos hj'] at this
      rw [← Array.getElem?_toList, this]
      unfold wv
      rw [List.getElem?_map] at hj ⊢
      rw [List.getElem?_eq_getElem hj'] at hj ⊢
      simp at hj ⊢
      exact hj) (blk_lt hh) (by omega) (by rw [e1]; exact hc) (by rw [e2]; show (Lib.join L [32]).length ≤ _; rw [join_joinW]; omega)
    rw [e1, e2] at this
    refine this.mono ?_
    rintro e w' ⟨rfl, hk⟩
    refine ⟨?_, hk⟩
    show Ending.returned (.string ⟨(Lib.join L [32]).toArray⟩) = _
    rw [join_joinW]
set_option maxHeartbeats 8000000 in
theorem lline_any (i : Ins) (hi : i.Wf) (w : World) (g : Gl w) : Calls Tryd.prog 10 #[i.val] w fun x w' => x = .returned (.tuple #[.string (lnB i), .int .i64 i.chk]) ∧ Below w.heap.size w w' := by
  obtain ⟨i0, z0, hii, hz0, hz1, hz2, hz3⟩ := info_strs
  have hfo := fun x => form_any i hi x
  have hF := @okB_facts i
  have hu := fun x => iuses_any i.o x
  have hnm := fun x => iname_any i.o x
  have hDC := @uD_uC i.o
  have HLEN := Lib.hid (linW_len i hi)
  have HCNT := Lib.hid (linW_cnt i)
  obtain ⟨ck, hck⟩ : ∃ ck, ck = i.chk := ⟨_, rfl⟩
  rw [← hck] at hfo hF HLEN
  obtain ⟨R, hR⟩ : ∃ R, R = lnB i := ⟨_, rfl⟩
  rw [← hR, ← hck]
  have hR0 : R = if ck = 0 then ⟨(lin i).toArray⟩ else ⟨#[]⟩ := by rw [hR, hck]; rfl
  clear hR hck
  have bk := hi.k
  clear hi
  obtain ⟨M, hM⟩ : ∃ M, M = linW i := ⟨_, rfl⟩
  rw [← hM] at HLEN HCNT
  have HR : Hid (R = if ck = 0 then ⟨(joinW M).toArray⟩ else ⟨#[]⟩) := Lib.hid (by rw [hR0, hM]; rfl)
  clear hR0
  unfold linW hC at hM
  obtain ⟨o, a, b, c, d, k⟩ := i
  unfold Ins.val at hfo ⊢
  simp only [hC] at hfo hF hu hnm hM bk hDC ⊢
  generalize uA o = hA at hu hF hM ⊢
  generalize uB o = hB at hu hF hM ⊢
  generalize uC o = cC at hu hF hM hDC ⊢
  generalize uD o = dD at hu hF hM hDC ⊢
  generalize uK o = kK at hu hF hM ⊢
  have HM := Lib.hid hM
  clear hM
  have hO : (w.alloc (.cells #[.int .i64 o, .int .i64 a, .int .i64 b, .int .i64 c, .int .i64 d, .int .u32 k] 24)).heap[w.heap.size]? = some (.cells (Ins.cells ⟨o, a, b, c, d, k⟩).toArray 24 (0, 0)) := heap_alloc_new w _
  have hB1 := (Below.refl w.heap.size w).alloc (Nat.le_refl _) (.cells #[.int .i64 o, .int .i64 a, .int .i64 b, .int .i64 c, .int .i64 d, .int .u32 k] 24)
  go_enter Tryd.func10, Tryd.ntmps10
  go_upto_region 1 with fail
  generalize w.alloc (.cells #[.int .i64 o, .int .i64 a, .int .i64 b, .int .i64 c, .int .i64 d, .int .u32 k] 24) = w1 at hO hB1 ⊢
  obtain ⟨p, hp⟩ : ∃ p, p = w.heap.size := ⟨_, rfl⟩
  rw [← hp] at hO ⊢
  clear hp
  have g1 := g.on hB1
  obtain ⟨c0, c1, c2, c3, c4, c5⟩ := ins_cells hO
  simp only at c0 c1 c2 c3 c4 c5
  go_wp2_with fail
  refine (hfo _).mono ?_
  rintro x w2 ⟨rfl, hk⟩
  clear c0 c1 c2 c3 c4 c5
  have hO2 := (hk.block _ (blk_lt hO)).trans hO
  have hB2 := bel_next hB1 hk
  have g2 := g1.on hk
  clear hk hO hB1 g1 hfo
  by_cases h0 : ¬ ck = 0
  · have d0 : (ck == 0) = false := by simpa using h0
    have HR2 := Lib.hid (show R = ⟨#[]⟩ by rw [HR.out, if_neg h0])
    clear h0
    go_wp2_with fail
    go_ret2
    exact ⟨by rw [HR2.out]; rfl, hB2⟩
  obtain rfl : ck = 0 := Decidable.of_not_not h0
  clear h0
  have HR2 := Lib.hid (show R = ⟨(joinW M).toArray⟩ by rw [HR.out, if_pos rfl])
  have HJ := Lib.hid (joinW_len M (HLEN.out rfl))
  clear HR HLEN
  obtain ⟨_, fa, fb, fd, fc⟩ := hF rfl
  clear hF
  obtain ⟨c0, c1, c2, c3, c4, c5⟩ := ins_cells hO2
  simp only at c0 c1 c2 c3 c4 c5
  go_wp2_with fail
  refine (hu _).mono ?_
  rintro x w3 ⟨rfl, rfl⟩
  clear hu
  go_wp2_with fail
  refine (hnm _).mono ?_
  rintro x w4 ⟨rfl, hk⟩
  clear hnm c0 c1 c2 c3 c4 c5
  have hO4 := (hk.block _ (blk_lt hO2)).trans hO2
  have hB4 := bel_next hB2 hk
  have g4 := g2.on hk
  have hp4 := blk_lt hO4
  clear hk hO2 hB2 g2
  have hS : WdS w4 (.slice (some ⟨w4.heap.size, 0, none⟩) 1 1) [(inm o).data.toList] (w4.alloc (.cells #[.string (inm o)] 9)) :=
    ⟨(Below.refl _ _).alloc (Nat.le_refl _) _, ⟨rfl, Or.inr ⟨w4.heap.size, 1, _, rfl, Nat.le_refl _, heap_alloc_new w4 _, Nat.le_refl _, by decide, rfl, by show [Value.string (inm o)] = wv [(inm o).data.toList]; unfold wv; rw [List.map_cons, nm_ba]; rfl⟩⟩⟩
  obtain ⟨L, hL⟩ : ∃ L, LW w4 (.slice (some ⟨w4.heap.size, 0, none⟩) 1 1) L [(inm o).data.toList] 1 (w4.alloc (.cells #[.string (inm o)] 9)) := ⟨_, hS, Lib.hid rfl, Nat.le_refl _⟩
  clear hS
  go_upto_region 6 with fail
  generalize w4.alloc (.cells #[.string (inm o)] 9) = wr at hL ⊢
  go_upto_if 29 with fail
  go_cut [10] (fun u wx => ∃ L, LW w4 u L ([(inm o).data.toList] ++ if hA = true then [rgL a] else []) 2 wx)
  case first =>
    obtain ⟨st, HL, hln⟩ := hL
    cases hA
    · go_wp2_with fail
      go_meet
      exact ⟨L, st, Lib.hid (by rw [HL.out]; simp), by omega⟩
    · have hq8 := fa rfl
      have hr := fun x => lreg_z a hq8.1 (by omega) x
      have hOr := (st.bel.block _ hp4).trans hO4
      clear hO4 fa hq8
      obtain ⟨c0, c1, c2, c3, c4, c5⟩ := ins_cells hOr
      simp only at c0 c1 c2 c3 c4 c5
      have hzs := st.bel.size
      have hown := st.own.alloc (.cells #[.string (RB a)] 9)
      have hBw := st.bel.alloc st.bel.size (.cells #[.string (RB a)] 9)
      clear st
      go_wp2_with fail
      refine (hr _).mono ?_
      rintro x w6 ⟨rfl, rfl⟩
      clear hr c0 c1 c2 c3 c4 c5
      go_wp2_with (at_builtin; (refine list_append rfl (.tmp 30) (.tmp 34) 54 rfl w4.heap.size (by simp; omega) 9 i0 z0 1 16 ul_strs hii hz0 hz1 hz2 hz3 (by decide) _ (L).length (wv (L)) rfl hown _ 1 (wv [rgL a]) rfl rfl (src_one _ _) (wv_one _) (by unfold maxLen; omega) (by omega) ?_); intro ao cap wz hown' hg hat; have hBz := below_append hBw hown hg (by simp; omega); clear hown hg hat hBw)
      go_meet
      exact ⟨L ++ [rgL a], WdS.push hBz hown', Lib.hid (by rw [HL.out]; rfl), by rw [List.length_append]; simp; omega⟩
  case rest =>
    obtain ⟨L, hL⟩ := hcut
    clear fa
    go_upto_if 36 with fail
    go_cut [10] (fun u wx => ∃ L, LW w4 u L (([(inm o).data.toList] ++ if hA = true then [rgL a] else []) ++ if hB = true then [rgL b] else []) 3 wx)
    case first =>
      obtain ⟨st, HL, hln⟩ := hL
      cases hB
      · go_wp2_with fail
        go_meet
        exact ⟨L, st, Lib.hid (by rw [HL.out]; simp), by omega⟩
      · have hq8 := fb rfl
        have hr := fun x => lreg_z b hq8.1 (by omega) x
        have hOr := (st.bel.block _ hp4).trans hO4
        clear hO4 fb hq8
        obtain ⟨c0, c1, c2, c3, c4, c5⟩ := ins_cells hOr
        simp only at c0 c1 c2 c3 c4 c5
        have hzs := st.bel.size
        have hown := st.own.alloc (.cells #[.string (RB b)] 9)
        have hBw := st.bel.alloc st.bel.size (.cells #[.string (RB b)] 9)
        clear st
        go_wp2_with fail
        refine (hr _).mono ?_
        rintro x w6 ⟨rfl, rfl⟩
        clear hr c0 c1 c2 c3 c4 c5
        go_wp2_with (at_builtin; (refine list_append rfl (.tmp 37) (.tmp 41) 54 rfl w4.heap.size (by simp; omega) 9 i0 z0 1 16 ul_strs hii hz0 hz1 hz2 hz3 (by decide) _ (L).length (wv (L)) rfl hown _ 1 (wv [rgL b]) rfl rfl (src_one _ _) (wv_one _) (by unfold maxLen; omega) (by omega) ?_); intro ao cap wz hown' hg hat; have hBz := below_append hBw hown hg (by simp; omega); clear hown hg hat hBw)
        go_meet
        exact ⟨L ++ [rgL b], WdS.push hBz hown', Lib.hid (by rw [HL.out]; rfl), by rw [List.length_append]; simp; omega⟩
    case rest =>
      obtain ⟨L, hL⟩ := hcut
      clear fb
      go_upto_if 43 with fail
      obtain ⟨H, hH⟩ : ∃ H, H = (cC && (!dD || d == 2)) := ⟨_, rfl⟩
      rw [← hH] at fc HM
      have HH := Lib.hid hH
      clear hH
      go_cut [7, 10] (fun h u wx => h = .bool H ∧ ∃ L, LW w4 u L ((([(inm o).data.toList] ++ if hA = true then [rgL a] else []) ++ if hB = true then [rgL b] else []) ++ if dD = true then [(mdB d).data.toList] else []) 4 wx)
      case first =>
        obtain ⟨st, HL, hln⟩ := hL
        cases dD
        · have hcc : cC = H := by rw [HH.out]; simp
          rw [hcc]
          clear hcc hDC
          go_wp2_with fail
          go_meet
          exact ⟨rfl, L, st, Lib.hid (by rw [HL.out]; simp), by omega⟩
        · have hq2 := fd rfl
          have HCV := Lib.hid (show Value.bool (d == 2) = Value.bool H by rw [HH.out, hDC rfl]; rfl)
          have hOr := (st.bel.block _ hp4).trans hO4
          clear fd hDC
          obtain ⟨c0, c1, c2, c3, c4, c5⟩ := ins_cells hOr
          simp only at c0 c1 c2 c3 c4 c5
          go_upto_region 11 with fail
          refine wp_region_held_drew (S := fun w' => w'.cell? ⟨p, 4, none⟩ = some (.int .i64 d)) (by kernel_rfl) c4 (fun hHeld => ?_)
          refine wpAnyH_take (i := 0) (v := ?_) rfl (by kernel_rfl) (by kernel_rfl) (by kernel_rfl) (fun _ _ _ h => h) (Or.inl ⟨by rfl, ?_⟩) (by assumption) ?_
          rotate_left
          · intro w hSw
            try dsimp only at hSw
            go_simp
            try with_reducible rfl
          try simp only [Act.put, List.setIfInBounds_toArray, List.set_cons_zero, List.set_cons_succ]
          refine wpAnyH_take (i := 2) (v := ?_) rfl (by kernel_rfl) (by kernel_rfl) (by kernel_rfl) (fun _ _ _ h => h) (Or.inl ⟨by rfl, ?_⟩) (by assumption) ?_
          rotate_left
          · intro w hSw
            try dsimp only at hSw
            go_simp
            try with_reducible rfl
          try simp only [Act.put, List.setIfInBounds_toArray, List.set_cons_zero, List.set_cons_succ]
          refine wpAnyH_take (i := 3) (v := ?_) rfl (by kernel_rfl) (by kernel_rfl) (by kernel_rfl) (fun _ _ _ h => h) (Or.inl ⟨by rfl, ?_⟩) (by assumption) ?_
          rotate_left
          · intro w hSw
            try dsimp only at hSw
            go_simp
            try with_reducible rfl
          try simp only [Act.put, List.setIfInBounds_toArray, List.set_cons_zero, List.set_cons_succ]
          refine wpAnyH_ready (rs := [1]) (by kernel_rfl) (by simp) ?_
          refine AllReadyH.cons rfl (fun K hK => ?_) AllReadyH.nil
          go_simp
          refine (lmodes_any _).mono ?_
          rintro y wC ⟨rfl, hkC⟩
          have c4 := (ins_cells ((hkC.block _ (blk_lt hOr)).trans hOr)).2.2.2.2.1
          have st := (show WdS w4 _ L wc.drew from ⟨st.bel.drew, st.own.drew⟩).on hkC
          refine hK.out _ _ (c4) (fun hHeld => ?_)
          clear hK K
          try simp only [Act.put, List.setIfInBounds_toArray, List.set_cons_zero, List.set_cons_succ]
          refine wpAnyH_take (i := 4) (v := ?_) rfl (by kernel_rfl) (by kernel_rfl) (by kernel_rfl) (fun _ _ _ h => h) (Or.inl ⟨by rfl, ?_⟩) (by assumption) ?_
          rotate_left
          · intro w hSw
            try dsimp only at hSw
            go_simp
            rw [md_z d hq2.1 hq2.2 w]; rfl
          try simp only [Act.put, List.setIfInBounds_toArray, List.set_cons_zero, List.set_cons_succ]
          refine wpAnyH_ready (rs := [5]) (by kernel_rfl) (by simp) ?_
          refine AllReadyH.cons rfl (fun K hK => ?_) AllReadyH.nil
          go_simp
          have hzs := st.bel.size
          have hown := st.own.alloc (.cells #[.string (mdB d)] 9)
          have hBw := st.bel.alloc st.bel.size (.cells #[.string (mdB d)] 9)
          have c4 : (wC.alloc (.cells #[.string (mdB d)] 9)).cell? ⟨p, 4, none⟩ = some (.int .i64 d) := by
            rw [World.cell?_alloc_lt _ _ _ (blk_lt ((hkC.block _ (blk_lt hOr)).trans hOr))]
            exact c4
          refine hK.out _ _ (c4) (fun hHeld => ?_)
          clear hK K
          try simp only [Act.put, List.setIfInBounds_toArray, List.set_cons_zero, List.set_cons_succ]
          refine wpAnyH_ready (rs := [6]) (by kernel_rfl) (by simp) ?_
          refine AllReadyH.cons rfl (fun K hK => ?_) AllReadyH.nil
          refine step_append rfl (.tmp 44) (.tmp 49) 54 rfl w4.heap.size (by simp; omega) 9 i0 z0 1 16 ul_strs hii hz0 hz1 hz2 hz3 (by decide) _ L.length (wv L) rfl hown _ 1 (wv [(mdB d).data.toList]) rfl rfl (src_md _ _) (wv_one _) (by unfold maxLen; omega) (by omega) ?_
          intro ao cap wz hown' hg hat
          have hBz := below_append hBw hown hg (by simp; omega)
          have c4 := (ins_cells ((hBz.block _ hp4).trans hO4)).2.2.2.2.1
          refine hK.out _ _ (c4) (fun hHeld => ?_)
          clear hK K
          try simp only [Act.put, List.setIfInBounds_toArray, List.set_cons_zero, List.set_cons_succ]
          refine wpAnyH_take (i := 7) (v := ?_) rfl (by kernel_rfl) (by kernel_rfl) (by kernel_rfl) (fun _ _ _ h => h) (Or.inl ⟨by rfl, ?_⟩) (by assumption) ?_
          rotate_left
          · intro w hSw
            try dsimp only at hSw
            go_simp
            try with_reducible rfl
          try simp only [Act.put, List.setIfInBounds_toArray, List.set_cons_zero, List.set_cons_succ]
          refine wpAnyH_done (by kernel_rfl) ?_ _
          simp only [Act.put, List.setIfInBounds_toArray, List.set_cons_zero, List.set_cons_succ, List.getElem_toArray, List.getElem_cons_succ, List.getElem_cons_zero]
          go_wp2_with fail
          go_meet
          exact ⟨HCV.out, L ++ [(mdB d).data.toList], WdS.push hBz hown', Lib.hid (by rw [HL.out]; rfl), by rw [List.length_append]; simp; omega⟩
      case rest =>
        obtain ⟨rfl, L, hL⟩ := hcut
        clear fd hDC HH
        go_upto_if 54 with fail
        go_cut [10] (fun u wx => ∃ L, LW w4 u L (((([(inm o).data.toList] ++ if hA = true then [rgL a] else []) ++ if hB = true then [rgL b] else []) ++ if dD = true then [(mdB d).data.toList] else []) ++ if H = true then [rgL c] else []) 5 wx)
        case first =>
          obtain ⟨st, HL, hln⟩ := hL
          cases H
          · go_wp2_with fail
            go_meet
            exact ⟨L, st, Lib.hid (by rw [HL.out]; simp), by omega⟩
          · have hq8 := fc rfl
            have hr := fun x => lreg_z c hq8.1 (by omega) x
            have hOr := (st.bel.block _ hp4).trans hO4
            clear hO4 fc hq8
            obtain ⟨c0, c1, c2, c3, c4, c5⟩ := ins_cells hOr
            simp only at c0 c1 c2 c3 c4 c5
            have hzs := st.bel.size
            have hown := st.own.alloc (.cells #[.string (RB c)] 9)
            have hBw := st.bel.alloc st.bel.size (.cells #[.string (RB c)] 9)
            clear st
            go_wp2_with fail
            refine (hr _).mono ?_
            rintro x w6 ⟨rfl, rfl⟩
            clear hr c0 c1 c2 c3 c4 c5
            go_wp2_with (at_builtin; (refine list_append rfl (.tmp 55) (.tmp 59) 54 rfl w4.heap.size (by simp; omega) 9 i0 z0 1 16 ul_strs hii hz0 hz1 hz2 hz3 (by decide) _ (L).length (wv (L)) rfl hown _ 1 (wv [rgL c]) rfl rfl (src_one _ _) (wv_one _) (by unfold maxLen; omega) (by omega) ?_); intro ao cap wz hown' hg hat; have hBz := below_append hBw hown hg (by simp; omega); clear hown hg hat hBw)
            go_meet
            exact ⟨L ++ [rgL c], WdS.push hBz hown', Lib.hid (by rw [HL.out]; rfl), by rw [List.length_append]; simp; omega⟩
        case rest =>
          obtain ⟨L, hL⟩ := hcut
          clear fc
          go_upto_if 61 with fail
          go_cut [10] (fun u wx => ∃ L, LW w4 u L ((((([(inm o).data.toList] ++ if hA = true then [rgL a] else []) ++ if hB = true then [rgL b] else []) ++ if dD = true then [(mdB d).data.toList] else []) ++ if H = true then [rgL c] else []) ++ if kK = true then [Lib.decDigits k] else []) 6 wx)
          case first =>
            obtain ⟨st, HL, hln⟩ := hL
            cases kK
            · go_wp2_with fail
              go_meet
              exact ⟨L, st, Lib.hid (by rw [HL.out]; simp), by omega⟩
            · have hr := fun x gx => fdb_any k x (by unfold FOk; omega) gx
              have hOr := (st.bel.block _ hp4).trans hO4
              have gr := g4.on st.bel
              obtain ⟨c0, c1, c2, c3, c4, c5⟩ := ins_cells hOr
              simp only at c0 c1 c2 c3 c4 c5
              go_wp2_with fail
              refine (hr _ gr).mono ?_
              rintro x w6 ⟨rfl, hk6⟩
              have st := st.on hk6
              have hzs := st.bel.size
              have hown := st.own.alloc (.cells #[.string (DB k)] 9)
              have hBw := st.bel.alloc st.bel.size (.cells #[.string (DB k)] 9)
              clear hr c0 c1 c2 c3 c4 c5 st hk6 hOr gr
              go_wp2_with (at_builtin; (refine list_append rfl (.tmp 62) (.tmp 67) 54 rfl w4.heap.size (by simp; omega) 9 i0 z0 1 16 ul_strs hii hz0 hz1 hz2 hz3 (by decide) _ (L).length (wv (L)) rfl hown _ 1 (wv [Lib.decDigits k]) rfl rfl (src_one _ _) (wv_one _) (by unfold maxLen; omega) (by omega) ?_); intro ao cap wz hown' hg hat; have hBz := below_append hBw hown hg (by simp; omega); clear hown hg hat hBw)
              go_meet
              exact ⟨L ++ [Lib.decDigits k], WdS.push hBz hown', Lib.hid (by rw [HL.out]; rfl), by rw [List.length_append]; simp; omega⟩
          case rest =>
            obtain ⟨L, hL⟩ := hcut
            obtain ⟨st, HL, hln⟩ := hL
            have hLM : L = M := by rw [HL.out, HM.out]; simp only [List.append_assoc, List.cons_append, List.nil_append]
            subst hLM
            have hj := fun x (s : WdS w4 u10 L x) => join_any s (by rw [HL.out]; simp) (by omega) (by have := HJ.out; omega)
            go_wp2_with fail
            refine (hj _ st).mono ?_
            rintro x w6 ⟨rfl, hk6⟩
            go_wp2_with fail
            go_ret2
            exact ⟨by rw [HR2.out]; rfl, bel_next (bel_next hB4 st.bel) hk6⟩
end Go.Proofs.YtghfkpddkmaflaaDoor
