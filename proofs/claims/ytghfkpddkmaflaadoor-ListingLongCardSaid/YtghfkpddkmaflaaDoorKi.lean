/- Walks of layer 11's laws ListingParts, ListingLong. Conditions: the library's variables' data. -/
import Derived.Test.YtghfkpddkmaflaaDoorKh
namespace Go.Proofs.YtghfkpddkmaflaaDoor
open Go Go.RowKit
set_option linter.unusedVariables false
set_option linter.unusedSimpArgs false
set_option maxRecDepth 20000
section
variable {P : Program} {w : World} {ops : Array Oper} {o : Oper} {a : Act} {Q : Exit → Act → World → Prop}
/-- list_append where the operation is guarded, and its guard holds. -/
theorem list_append_g {rest : List Oper}
    (hg : Region.wanted o (yielded ops a.tmps) = true) (s x : Operand) (t : TypeId) (hop : o.op = Op.call { callee := Callee.builtin Builtin.append, args := #[s, x], argTypes := #[t, t] })
    (base : Nat) (hbase : base ≤ w.heap.size) (e : TypeId) (i : TypeInfo) (z : Value) (size bytes : Nat) (h1 : P.underlying t = some (.slice e)) (h2 : P.info? e = some i) (h3 : i.zero = some z) (h4 : i.size = size) (h5 : i.bytes = bytes) (h6 : z.cells.size = size) (h7 : 0 < size)
    (v : Value) (n : Nat) (xs : List Value) (hs : a.eval s = v) (hown : w.ownsRow base e size v n xs)
    (xv : Value) (m : Nat) (news : List Value) (hx : a.eval x = xv) (hl : news.length = m * size) (hsrc : Src w xv m news) (h1c : ∀ u ∈ news, u.oneCell' = true)
    (b1 : n + m ≤ maxLen) (b2 : (n + m) * bytes ≤ 140737488355328)
    (hK : ∀ ao cap w', w'.ownsRow base e size (.slice ao (n + m) cap) (n + m) (xs ++ news) → w.grownBy w' v.ownBlock → ((Value.slice ao (n + m) cap).ownBlock = v.ownBlock ∨ (Value.slice ao (n + m) cap).ownBlock = some w.heap.size) → wpList P ops Q rest (a.put o.dst (.slice ao (n + m) cap)) w') :
    wpList P ops Q (o :: rest) a w := by
  refine wpList_step fun K hK' => ?_
  rw [if_pos hg]
  obtain ⟨v', w', hrun, r1, r2, r3⟩ := run_append_src (P := P) base hbase t o.type e i z size bytes h1 h2 h3 h4 h5 h6 h7 v n xs hown xv m news hl hsrc h1c b1 b2
  unfold Oper.wp
  simp [execOp, hop, resolve, invoke, builtin, hs, hx, hrun, Result.andThen]
  obtain ⟨ao, cap, rfl⟩ := owns_form r1
  exact hK' _ _ (hK ao cap w' r1 r2 r3)
end
theorem src_own {w : World} {base t n cap : Nat} {ao : Option Addr} {xs : List Value} (h : w.ownsRow base t 6 (.slice ao n cap) n xs) : Src w (.slice ao n cap) n xs := by
  have hc := fun g (hg : (Value.slice ao n cap).ownBlock = some g) => h.cells hg
  rcases h.2 with ⟨h1, h2⟩ | ⟨g, cp, cur, h1, _, hb, hnc, hcm, _⟩
  · simp only [Value.slice.injEq] at h1
    obtain ⟨rfl, rfl, rfl⟩ := h1
    have : xs = [] := List.eq_nil_of_length_eq_zero (by have := h.1; omega)
    subst this
    exact .inl ⟨rfl, rfl, rfl⟩
  · simp only [Value.slice.injEq] at h1
    obtain ⟨rfl, _, rfl⟩ := h1
    exact .inr ⟨_, _, rfl, fun j u hj => hc g rfl j u hj⟩
theorem insCells_app (a b : List Ins) : insCells (a ++ b) = insCells a ++ insCells b := by simp [insCells]
theorem rdT_parts {a b : List UInt8} (ha : (rdT a).2.2 = 0) (hb : (rdT b).2.2 = 0) : rdT (a ++ b) = if 256 < (rdT a).1.length + (rdT b).1.length then ([], 257, 4) else ((rdT a).1 ++ (rdT b).1, 0, 0) := by
  obtain ⟨a1, a2, a3, a4⟩ := rdP_back _ _ _ ha
  obtain ⟨b1, b2, b3, b4⟩ := rdP_back _ _ _ hb
  have ea : (rdT a).1.length = (spl a).1.length := by
    have := congrArg List.length a2
    rwa [List.length_map] at this
  have eb : (rdT b).1.length = (spl b).1.length := by
    have := congrArg List.length b2
    rwa [List.length_map] at this
  have h0 : (rdP (spl a).1 [] 0).2.2 = 0 := by
    have : (rdP (spl a).1 (spl a).2 0).2.2 = 0 := ha
    rwa [a1] at this
  have e0 : (rdP (spl a).1 [] 0).1 = (rdT a).1 := by
    show _ = (rdP (spl a).1 (spl a).2 0).1
    rw [a1]
  have hA := rdP_app (spl a).1 (spl b).1 [] 0 h0
  have hT : rdT (a ++ b) = rdP ((spl a).1 ++ (spl b).1) [] 0 := by
    show rdP (spl (a ++ b)).1 (spl (a ++ b)).2 0 = _
    rw [spl_app a1]
    show rdP ((spl a).1 ++ (spl b).1) (spl b).2 0 = _
    rw [b1]
  have b2 : List.map lin (rdT b).1 = (spl b).1 := b2
  have b4 : ∀ i ∈ (rdT b).1, i.Wf ∧ i.chk = 0 := b4
  rw [hT, hA, Nat.zero_add, ← ea, e0]
  by_cases hl : 256 < (rdT a).1.length + (rdT b).1.length
  · rw [if_pos hl, rdP_long (spl b).1 [] (rdT a).1.length (by omega) (fun x hx => by
      rw [← b2] at hx
      obtain ⟨i, hi, rfl⟩ := List.mem_map.1 hx
      rw [ins_lin (b4 i hi).1 (b4 i hi).2]) (by omega)]
    rfl
  · have hk := rdP_ok (rdT b).1 (rdT a).1.length b4 (by omega)
    rw [b2] at hk
    rw [if_neg hl, hk]
    rfl
theorem rdT_rep {i : Ins} (hw : i.Wf) (hc : i.chk = 0) (n : Nat) : rdT (prT (List.replicate n i)) = if 256 < n then ([], 257, 4) else (List.replicate n i, 0, 0) := by
  have hm : ∀ j ∈ List.replicate n i, j.Wf ∧ j.chk = 0 := fun j hj => by rw [List.eq_of_mem_replicate hj]; exact ⟨hw, hc⟩
  unfold rdT
  rw [spl_pr fun j hj => (hm j hj).2]
  by_cases h : 256 < n
  · rw [if_pos h]
    exact rdP_long _ _ 0 (by decide) (fun x hx => by
      obtain ⟨j, hj, rfl⟩ := List.mem_map.1 hx
      rw [ins_lin (hm j hj).1 (hm j hj).2]) (by simp; omega)
  · rw [if_neg h]
    exact rdP_ok _ 0 hm (by simp; omega)
theorem prT_rep_snoc (i : Ins) (n : Nat) : prT (List.replicate (n + 1) i) = prT (List.replicate n i) ++ (lin i ++ [10]) := by
  unfold prT
  rw [List.replicate_succ', List.map_append]
  exact txtL_snoc _ _
set_option maxHeartbeats 4000000 in
theorem listingLong_law (n : Int) (i : Ins) (W : World) (g : Gl W) (hn : -9223372036854775808 ≤ n ∧ n ≤ 9223372036854775807) (hi : i.Wf) : Calls Tryd.prog 6 #[.int .i64 n, i.val] W fun x W' => x = .returned (.bool true) ∧ Below W.heap.size W W' := by
  have hL := fun x gx => lline_any i hi x gx
  have HO := Lib.hid (show i.chk = 0 → lnB i = txB (lin i) from fun h => by unfold lnB; rw [if_pos h]; rfl)
  have HR := Lib.hid (fun (h : i.chk = 0) k => rdT_rep hi h k)
  have HLL := Lib.hid (fun (h : i.chk = 0) => lin_len i hi h)
  have HST := Lib.hid (prT_rep_snoc i)
  have HP0 := Lib.hid (show prT (List.replicate 0 i) = [] from rfl)
  obtain ⟨ck, hck⟩ : ∃ c, c = i.chk := ⟨_, rfl⟩
  rw [← hck] at hL HO HR HLL
  clear hck hi
  obtain ⟨D, hD⟩ : ∃ D, D = lnB i := ⟨_, rfl⟩
  rw [← hD] at hL HO
  clear hD
  obtain ⟨ln, hln⟩ : ∃ ln, ln = lin i := ⟨_, rfl⟩
  rw [← hln] at HO HLL HST
  clear hln
  have HR1 := Lib.hid (show ∃ P : Nat → List Ins, ck = 0 → ∀ k, rdT (prT (List.replicate k i)) = (if 256 < k then ([], 257, 4) else (P k, 0, 0)) ∧ (P k).length = k from ⟨fun k => List.replicate k i, fun h k => ⟨HR.out h k, by simp⟩⟩)
  obtain ⟨PT, hPT⟩ : ∃ PT : Nat → List UInt8, PT = fun k => prT (List.replicate k i) := ⟨_, rfl⟩
  have HR2 := Lib.hid (show ∃ P : Nat → List Ins, ck = 0 → ∀ k, rdT (PT k) = (if 256 < k then ([], 257, 4) else (P k, 0, 0)) ∧ (P k).length = k by rw [hPT]; exact HR1.out)
  have HST2 := Lib.hid (show ∀ k, PT (k + 1) = PT k ++ (ln ++ [10]) by rw [hPT]; exact HST.out)
  have HP2 := Lib.hid (show PT 0 = [] by rw [hPT]; exact HP0.out)
  clear hPT HR HR1 HST HP0
  obtain ⟨o, a, b, c, d, k⟩ := i
  simp only [Ins.val] at hL ⊢
  have hI : (W.alloc (.cells #[.int .i64 o, .int .i64 a, .int .i64 b, .int .i64 c, .int .i64 d, .int .u32 k] 24)).heap[W.heap.size]? = some (.cells (Ins.cells ⟨o, a, b, c, d, k⟩).toArray 24 (0, 0)) := heap_alloc_new W _
  have hB1 := (Below.refl W.heap.size W).alloc (Nat.le_refl _) (.cells #[.int .i64 o, .int .i64 a, .int .i64 b, .int .i64 c, .int .i64 d, .int .u32 k] 24)
  go_enter Tryd.func6, Tryd.ntmps6
  go_upto_region 1 with fail
  generalize W.alloc (.cells #[.int .i64 o, .int .i64 a, .int .i64 b, .int .i64 c, .int .i64 d, .int .u32 k] 24) = w1 at hI hB1 ⊢
  obtain ⟨q, hq⟩ : ∃ q, q = W.heap.size := ⟨_, rfl⟩
  rw [← hq] at hI ⊢
  clear hq
  have g1 : Gl w1 := g.on hB1
  obtain ⟨c0, c1, c2, c3, c4, c5⟩ := ins_cells hI
  simp only at c0 c1 c2 c3 c4 c5
  go_wp2_with fail
  refine (hL _ g1).mono ?_
  rintro e w2 ⟨rfl, hk⟩
  have hB2 := bel_next hB1 hk
  have g2 := g.on hB2
  clear hk hB1 g1 hI c0 c1 c2 c3 c4 c5 hL
  go_wp2_with fail
  refine (awake11_any _ g2).mono ?_
  rintro e w3 ⟨rfl, hk⟩
  have hB3 := bel_next hB2 hk
  have g3 := g.on hB3
  clear hk hB2 g2
  by_cases hbad : n < 0 ∨ 300 < n ∨ ck ≠ 0
  · have hbad : n < 0 ∨ (¬ n < 0 ∧ 300 < n) ∨ (¬ n < 0 ∧ ¬ 300 < n ∧ ck ≠ 0) := by omega
    rcases hbad with h1 | ⟨h1, h2⟩ | ⟨h1, h2, h3⟩
    · go_wp2_with fail
      refine (awake11_any _ g3).mono ?_
      rintro e w4 ⟨rfl, hk⟩
      go_wp2_with fail
      go_ret
      exact ⟨rfl, bel_next hB3 hk⟩
    · go_wp2_with fail
      refine (awake11_any _ g3).mono ?_
      rintro e w4 ⟨rfl, hk⟩
      go_wp2_with fail
      go_ret
      exact ⟨rfl, bel_next hB3 hk⟩
    · have d0 : (ck != 0) = true := by rw [bne_iff_ne]; exact h3
      clear h3
      go_wp2_with fail
      refine (awake11_any _ g3).mono ?_
      rintro e w4 ⟨rfl, hk⟩
      go_wp2_with fail
      go_ret
      exact ⟨rfl, bel_next hB3 hk⟩
  · obtain ⟨m, rfl⟩ : ∃ m : Nat, n = m := ⟨n.toNat, by omega⟩
    have h0 : ck = 0 := by omega
    have hm : m ≤ 300 := by omega
    have hn0 : ¬ (m : Int) < 0 := by omega
    have hn3 : ¬ (300 : Int) < m := by omega
    have hD := HO.out h0
    have hll := HLL.out h0
    have hDz : D.size ≤ 156 := by rw [hD, txB_size]; exact hll
    have HDD := Lib.hid hD
    have HLN := Lib.hid hll
    obtain ⟨P, hP⟩ := HR2.out
    have HPP := Lib.hid (hP h0)
    have d0 : (ck != 0) = false := by rw [h0]; rfl
    clear hbad h0 hD hll hP HO HLL HR2 hn
    have hcat1 : ¬ 9223372036854775807 < D.size + 1 := by omega
    go_wp2_with fail
    go_loopw [7, 32] (fun u kv wr => ∃ k : Nat, kv = .int .i64 k ∧ u = .string (txB (PT k)) ∧ k ≤ m ∧ (PT k).length ≤ 157 * k ∧ w3 = wr) (fun _ kv _ => m - (intOf kv).toNat)
    case atStart => exact ⟨0, rfl, by rw [HP2.out]; rfl, Nat.zero_le _, by rw [HP2.out]; exact Nat.zero_le _, rfl⟩
    case round =>
      obtain ⟨k, rfl, rfl, hk, hT, rfl⟩ := hrel
      have HT := Lib.hid hT
      have HTZ := Lib.hid (txB_size (PT k))
      have HXN := Lib.hid (fun X h => tx_three (PT k) ln X D h HDD.out)
      obtain ⟨X, hX⟩ : ∃ X, X = txB (PT k) := ⟨_, rfl⟩
      have hXs : X.size ≤ 157 * k := by rw [hX, HTZ.out]; exact hT
      rw [← hX]
      have HX := Lib.hid hX
      clear hX hT
      by_cases hlt : k < m
      · have hltI : (k : Int) < m := by omega
        have hcat2 : ¬ 9223372036854775807 < X.size + (D.size + 1) := by omega
        go_wp2_with fail
        go_roundw
        case rel => exact ⟨k + 1, by go_num, by rw [HST2.out, ← HXN.out X HX.out], by omega, by rw [HST2.out, List.length_append, List.length_append]; have := HT.out; have := HLN.out; simp; omega, trivial⟩
        case measure => simp [intOf]; omega
      · have hltI : ¬ (k : Int) < m := by omega
        obtain rfl : k = m := by omega
        have hR := lread_any X (by omega) w3 g3
        have hXl : X.data.toList = PT k := by rw [HX.out]; simp [txB]
        rw [hXl, (HPP.out k).1] at hR
        have hPl := (HPP.out k).2
        clear hXl HXN
        by_cases hl : 256 < k
        · rw [if_pos hl] at hR
          have hlI : (256 : Int) < k := by omega
          clear hl hPl
          go_wp2_with fail
          refine hR.mono ?_
          rintro x w4 ⟨ao, cap, rfl, hown, hk4⟩
          go_wp2_with fail
          go_ret
          exact ⟨rfl, bel_next hB3 hk4⟩
        · rw [if_neg hl] at hR
          have hlI : ¬ (256 : Int) < k := by omega
          clear hl
          go_wp2_with fail
          refine hR.mono ?_
          rintro x w4 ⟨ao, cap, rfl, hown, hk4⟩
          simp only [hPl]
          clear hPl hown
          go_wp2_with fail
          go_ret
          exact ⟨rfl, bel_next hB3 hk4⟩
set_option maxHeartbeats 4000000 in
theorem listingParts_law (a b : ByteArray) (W : World) (g : Gl W) (_ha : a.size ≤ maxLen) (_hb : b.size ≤ maxLen) : Calls Tryd.prog 5 #[.string a, .string b] W fun x W' => x = .returned (.bool true) ∧ Below W.heap.size W W' := by
  obtain ⟨i0, hi, hz0, hz1, hz2⟩ := ins_info
  go_enter Tryd.func5, Tryd.ntmps5
  go_wp2_with fail
  refine (awake11_any _ g).mono ?_
  rintro e w2 ⟨rfl, hB2⟩
  have g2 := g.on hB2
  by_cases hbad : 2000 < a.size ∨ 2000 < b.size
  · have hbad : (2000 : Int) < a.size ∨ (¬ (2000 : Int) < a.size ∧ (2000 : Int) < b.size) := by omega
    rcases hbad with h1 | ⟨h1, h2⟩
    · go_wp2_with fail
      refine (awake11_any _ g2).mono ?_
      rintro e w3 ⟨rfl, hk⟩
      go_wp2_with fail
      go_ret
      exact ⟨rfl, bel_next hB2 hk⟩
    · go_wp2_with fail
      refine (awake11_any _ g2).mono ?_
      rintro e w3 ⟨rfl, hk⟩
      go_wp2_with fail
      go_ret
      exact ⟨rfl, bel_next hB2 hk⟩
  · have hz1' : ¬ (2000 : Int) < a.size := by omega
    have hz2' : ¬ (2000 : Int) < b.size := by omega
    have ha2 : a.size ≤ 2000 := by omega
    have hb2 : b.size ≤ 2000 := by omega
    clear hbad
    have hRa := lread_any a (by omega) w2 g2
    have hRb := fun x gx => lread_any b (by omega) x gx
    have hRc := fun x gx => lread_any (a ++ b) (by rw [ByteArray.size_append]; omega) x gx
    have hab : (a ++ b).data.toList = a.data.toList ++ b.data.toList := by rw [ByteArray.data_append, Array.toList_append]
    rw [hab] at hRc
    have HPT := Lib.hid (fun h h' => rdT_parts (a := a.data.toList) (b := b.data.toList) h h')
    have hma := rdT_len a.data.toList
    have hmb := rdT_len b.data.toList
    clear hab
    generalize rdT (a.data.toList ++ b.data.toList) = Rc at hRc HPT
    generalize rdT a.data.toList = Ra at hRa HPT hma
    generalize rdT b.data.toList = Rb at hRb HPT hmb
    obtain ⟨la, pa, ea⟩ := Ra
    obtain ⟨lb, pb, eb⟩ := Rb
    simp only at hma hmb
    have HPT := Lib.hid (show ea = 0 → eb = 0 → Rc = if 256 < la.length + lb.length then ([], 257, 4) else (la ++ lb, 0, 0) from HPT.out)
    go_wp2_with fail
    refine hRa.mono ?_
    rintro x w3 ⟨oa, ca, rfl, hown3, hk3⟩
    have hB3 := bel_next hB2 hk3
    have g3 := g.on hB3
    simp only at hown3 ⊢
    clear hRa hk3
    go_wp2_with fail
    refine (hRb _ g3).mono ?_
    rintro x w4 ⟨ob, cb, rfl, hown4, hk4⟩
    have hB4 := bel_next hB3 hk4
    have g4 := g.on hB4
    simp only at hown4 ⊢
    have hown34 := own_below hown3 hk4
    clear hRb hk4 g3 hown3
    by_cases hbad : ea ≠ 0 ∨ eb ≠ 0
    · have hbad : (ea != 0) = true ∨ ((ea != 0) = false ∧ (eb != 0) = true) := by
        by_cases h : ea = 0
        · refine Or.inr ⟨by rw [h]; rfl, ?_⟩
          rw [bne_iff_ne]
          rcases hbad with q | q
          · exact absurd h q
          · exact q
        · exact Or.inl (by rw [bne_iff_ne]; exact h)
      clear hown34 hown4
      rcases hbad with h1 | ⟨h1, h2⟩
      · go_wp2_with fail
        go_ret
        exact ⟨rfl, hB4⟩
      · go_wp2_with fail
        go_ret
        exact ⟨rfl, hB4⟩
    · have h1 : ea = 0 := by omega
      have h2 : eb = 0 := by omega
      have d1 : (ea != 0) = false := by rw [h1]; rfl
      have d2 : (eb != 0) = false := by rw [h2]; rfl
      have hRR := HPT.out h1 h2
      clear hbad h1 h2 HPT
      have hcat : ¬ 9223372036854775807 < a.size + b.size := by omega
      have hRc := hRc w4 g4
      rw [hRR] at hRc
      clear hRR
      by_cases hl : 256 < la.length + lb.length
      · rw [if_pos hl] at hRc
        have hlI : (256 : Int) < (la.length : Int) + lb.length := by omega
        clear hl hown34 hown4
        generalize la.length = na at *
        generalize lb.length = nb at *
        go_wp2_with fail
        refine hRc.mono ?_
        rintro x w5 ⟨oc, cc, rfl, hown5, hk5⟩
        go_wp2_with fail
        go_ret
        exact ⟨rfl, bel_next hB4 hk5⟩
      · rw [if_neg hl] at hRc
        have hlI : ¬ (256 : Int) < (la.length : Int) + lb.length := by omega
        go_wp2_with fail
        refine hRc.mono ?_
        rintro x w5 ⟨oc, cc, rfl, hown5, hk5⟩
        have hB5 := bel_next hB4 hk5
        simp only at hown5 ⊢
        have hk0 := (Below.refl w5.heap.size w5).alloc (Nat.le_refl _) (.cells #[] 24)
        have hown0 := own_zero' w5 24 6 (Nat.le_refl w5.heap.size)
        have ha5 := own_below hown34 hk5
        have hb5 := own_below hown4 hk5
        have ha6 := own_below ha5 hk0
        have hla : (insCells la).length = la.length * 6 := insCells_length la
        have hlb : (insCells lb).length = lb.length * 6 := insCells_length lb
        have hoa := insCells_one la
        have hob := insCells_one lb
        have HSM := Lib.hid (fun (wx : World) (ax : Option Addr) (cx : Nat) (h1 : wx.ownsRow w5.heap.size 24 6 (.slice ax (la.length + lb.length) cx) (la.length + lb.length) (insCells la ++ insCells lb)) (k : Below w5.heap.size w5 wx) => by
          have h2 := own_below hown5 k
          rw [← insCells_app] at h1
          have hn : la.length + lb.length = (la ++ lb).length := List.length_append.symm
          exact rsame_eq wx oc ax (la.length + lb.length) cc cx (fun i => (la ++ lb).getD i default) (slArgN_own' hn (by rw [hn]; exact h2)) (slArgN_own' hn h1) (by omega))
        simp only [List.length_append] at hown5 ⊢
        clear hown34 hown4 hown5 hk5
        generalize insCells la = ca' at *
        generalize insCells lb = cb' at *
        generalize la.length = na at *
        generalize lb.length = nb at *
        have hsa := src_own ha6
        have hz6 := hk0.size
        go_upto_region 10 with fail
        go_wp2_with (first
          | (at_builtin; (refine list_append_g rfl (.tmp 69) (.tmp 70) 36 rfl w5.heap.size hz6 24 i0 _ 6 48 ul_ins hi hz0 hz1 hz2 rfl (by decide) _ 0 [] rfl hown0 _ na ca' rfl hla hsa hoa (by unfold maxLen; omega) (by omega) ?_); intro ao cp w7 hown7 hg7 hat7; have k7 := below_append hk0 hown0 hg7 hz6; simp only [Nat.zero_add, List.nil_append] at hown7 ⊢)
          | (at_builtin; (refine list_append_g rfl (.tmp 71) (.tmp 72) 36 rfl w5.heap.size k7.size 24 i0 _ 6 48 ul_ins hi hz0 hz1 hz2 rfl (by decide) _ na ca' rfl hown7 _ nb cb' rfl hlb (src_own (own_below hb5 k7)) hob (by unfold maxLen; omega) (by omega) ?_); intro ao8 cp8 w8 hown8 hg8 hat8; have k8 := below_append k7 hown7 hg8 k7.size))
        refine (HSM.out w8 ao8 cp8 hown8 k8).mono ?_
        rintro x w9 ⟨rfl, m, rfl⟩
        go_wp2_with fail
        go_ret
        exact ⟨rfl, below_drewN (bel_next hB5 k8) m⟩
end Go.Proofs.YtghfkpddkmaflaaDoor
