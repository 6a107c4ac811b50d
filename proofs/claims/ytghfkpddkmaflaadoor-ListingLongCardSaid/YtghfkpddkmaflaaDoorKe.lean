/- A strings.Builder's copyCheck, WriteString, WriteByte in this program; the contract of listing.Print. Conditions: the library's variables' data. -/
import Derived.Test.YtghfkpddkmaflaaDoorKd
import Derived.Shelf.Strings.Builder1
namespace Go.Proofs.YtghfkpddkmaflaaDoor
open Go Go.RowKit
set_option linter.unusedVariables false
set_option linter.unusedSimpArgs false
set_option maxRecDepth 100000
theorem info_u8 : (Tryd.prog.info? 5).map (fun i => (i.zero, i.size, i.bytes)) = some (some (.int .u8 0), 1, 1) := by kernel_rfl
theorem ul_bytes : Tryd.prog.underlying 77 = some (.slice 5) := by kernel_rfl
theorem ul_string : Tryd.prog.underlying 9 = some .string := by kernel_rfl
theorem size_bld : (Tryd.prog.info? 79).map (·.size) = some 2 := by kernel_rfl
theorem lies_bld : liesAt Tryd.prog Tryd.prog.depth 79 (2 / Tryd.prog.cellsOf 79) 0 79 1 = true := by kernel_rfl
theorem copyCheck_used {B b : Nat} {bs : List Value} {w : World} (h : Lib.BuilderAt 79 5 B b (.pointer (some ⟨b, 0, none⟩)) bs w) :
    Calls Tryd.prog 55 #[.pointer (some ⟨b, 0, none⟩)] w fun e w' => e = .returned (.tuple #[]) ∧ w = w' := by
  have c0 := h.cell0
  go_enter Tryd.func55, Tryd.ntmps55
  go_wp2
  rw [Lib.run_neq_ptr_same w _ Tryd.underlying76 ((Option.some_get (by kernel_rfl : (Tryd.prog.info? 79).isSome = true)).symm)]
  go_wp2
  go_end0
  exact ⟨rfl, rfl⟩
theorem copyCheck_new {b : Nat} {w : World} (h0 : w.cell? ⟨b, 0, none⟩ = some (.pointer none)) (hsh : w.shape? b = some (79, 2)) (hfz : w.frozen? ⟨b, 0, none⟩ = false) :
    Calls Tryd.prog 55 #[.pointer (some ⟨b, 0, none⟩)] w fun e w' => e = .returned (.tuple #[]) ∧ w' = w.setCell ⟨b, 0, none⟩ (.pointer (some ⟨b, 0, none⟩)) := by
  obtain ⟨j, hj, hjs⟩ := Option.map_eq_some_iff.1 size_bld
  go_enter Tryd.func55, Tryd.ntmps55
  go_wp2
  rw [Lib.run_to_unsafe w ⟨b, 0, none⟩ Tryd.underlying76 Tryd.underlying102 hj (by rw [hjs]; decide) hsh (Nat.zero_lt_succ 1)]
  simp only [Result.andThen]
  rw [Oper.upon_value]
  go_wp2
  rw [run_callFunc_extern Tryd.func68 (by kernel_rfl) (by kernel_rfl) (by kernel_rfl) (e := Extern.AbiNoEscape.same) (by kernel_rfl)]
  rw [Lib.run_noEscape]
  simp only [Result.andThen]
  rw [Oper.upon_value]
  go_wp2
  rw [Lib.run_from_unsafe w ⟨b, 0, none⟩ Tryd.underlying102 Tryd.underlying76 hj hsh lies_bld]
  simp only [Result.andThen]
  rw [Oper.upon_value]
  go_wp2
  go_end0
  exact ⟨rfl, rfl⟩
theorem copyCheck_any {B b : Nat} {bs : List Value} {w : World} (h : Lib.IsBuilder 79 5 B b bs w) :
    Calls Tryd.prog 55 #[.pointer (some ⟨b, 0, none⟩)] w fun e w' => e = .returned (.tuple #[]) ∧ (Lib.BuilderAt 79 5 B b (.pointer (some ⟨b, 0, none⟩)) bs w' ∧ Below B w w') := by
  rcases h with h | h
  · refine (copyCheck_new h.cell0 h.shape h.frozen0).mono ?_
    rintro e w' ⟨rfl, rfl⟩
    exact ⟨rfl, h.used _, (Below.refl B w).setCell (p := ⟨b, 0, none⟩) h.1 _⟩
  · refine (copyCheck_used h).mono ?_
    rintro e w' ⟨rfl, rfl⟩
    exact ⟨rfl, h, Below.refl B _⟩
set_option maxHeartbeats 2000000 in
theorem bwstr_any {B b : Nat} {bs : List Value} {w : World} (h : Lib.IsBuilder 79 5 B b bs w) (s : ByteArray) (hlen : bs.length + s.size ≤ 140737488355328) (hBw : B ≤ w.heap.size) :
    Calls Tryd.prog 43 #[.pointer (some ⟨b, 0, none⟩), .string s] w fun e w' => e = .returned (.tuple #[.int .i64 s.size, .nilIface]) ∧ (Lib.BuilderAt 79 5 B b (.pointer (some ⟨b, 0, none⟩)) (bs ++ Lib.strCells s) w' ∧ Below B w w') := by
  have hcc := copyCheck_any h
  obtain ⟨i0, hi, hz0, hz1, hz2⟩ := info_parts info_u8
  go_enter Tryd.func43, Tryd.ntmps43
  go_wp2_with fail
  refine hcc.mono ?_
  rintro e w1 ⟨rfl, h1, hb1⟩
  obtain ⟨hB, v, hbk, hown, hne⟩ := h1
  have c1 : w1.cell? ⟨b, 1, none⟩ = some v := by rw [cell_blk hbk]; rfl
  have hlt := blk_lt hbk
  go_wp2_with (at_builtin; (refine Lib.wpList_append_own_string _ rfl _ _ 77 9 rfl B 5 i0 ul_bytes ul_string hi hz0 hz1 hz2 v _ _ rfl hown s rfl ?c3 ?c4 ?c5 ?_))
  case c3 => unfold maxLen; omega
  case c4 => omega
  case c5 => have := hb1.size; omega
  intro v' w2 hown' hg hnil
  have hb2 := (hg.block b hlt (fun x => hne x.symm)).trans hbk
  have d1 : w2.cell? ⟨b, 1, none⟩ = some v := by rw [cell_blk hb2]; rfl
  have f1 := frozen_blk hb2 1
  obtain ⟨ao, n', cap, rfl⟩ : ∃ ao n' cap, v' = .slice ao n' cap := by
    rcases hown'.2 with ⟨hv, _⟩ | ⟨g, cap, cur, hv, _⟩
    · exact ⟨_, _, _, hv⟩
    · exact ⟨_, _, _, hv⟩
  go_wp2_with fail
  go_ret2
  refine ⟨rfl, ?_, ?_⟩
  · exact Lib.BuilderAt.put (T := 79) (e := 5) hB hb2 (bs' := bs ++ Lib.strCells s) (by simpa [Lib.strCells_length] using hown') (by decide)
  · exact (hb1.grown hg (by have := hb1.size; omega) (fun k hk => (hown.lt k hk).1)).setCell (p := ⟨b, 1, none⟩) hB _
set_option maxHeartbeats 2000000 in
theorem bwbyte_any {B b : Nat} {bs : List Value} {w : World} (h : Lib.IsBuilder 79 5 B b bs w) (c : Int) (hlen : bs.length + 1 ≤ 140737488355328) (hBw : B ≤ w.heap.size) :
    Calls Tryd.prog 44 #[.pointer (some ⟨b, 0, none⟩), .int .u8 c] w fun e w' => e = .returned .nilIface ∧ (Lib.BuilderAt 79 5 B b (.pointer (some ⟨b, 0, none⟩)) (bs ++ [.int .u8 c]) w' ∧ Below B w w') := by
  have hcc := copyCheck_any h
  obtain ⟨i0, hi, hz0, hz1, hz2⟩ := info_parts info_u8
  go_enter Tryd.func44, Tryd.ntmps44
  go_wp2_with fail
  refine hcc.mono ?_
  rintro e w1 ⟨rfl, h1, hb1⟩
  obtain ⟨hB, v, hbk, hown, hne⟩ := h1
  have c1 : w1.cell? ⟨b, 1, none⟩ = some v := by rw [cell_blk hbk]; rfl
  have hlt := blk_lt hbk
  go_wp2_with (at_builtin; (refine wpList_append_own _ rfl _ _ 77 rfl B 5 i0 (.int .u8 0) 1 1 ul_bytes hi hz0 hz1 hz2 rfl (by decide) _ _ _ rfl (hown.alloc _) ⟨w1.heap.size, 0, none⟩ 1 1 [.int .u8 c] rfl rfl ?c1 ?c2 ?c3 ?c4 ?c5 ?_))
  case c1 =>
    intro j u hj
    match j, hj with
    | 0, hj => simp at hj; subst hj; simp [Addr.add]
  case c2 => intro u hu; simp at hu; subst hu; rfl
  case c3 => unfold maxLen; omega
  case c4 => omega
  case c5 => have := hb1.size; simp; omega
  intro v' w2 hown' hgrow _
  have hb2 : w2.heap[b]? = some (.cells #[.pointer (some ⟨b, 0, none⟩), v] 79 (0, 0)) := by
    rw [hgrow.block b (by simp; omega) (fun e => hne e.symm), Lib.alloc_old w1 _ b hlt]
    exact hbk
  have d1 : w2.cell? ⟨b, 1, none⟩ = some v := by rw [cell_blk hb2]; rfl
  have f1 := frozen_blk hb2 1
  obtain ⟨g, cap, rfl⟩ : ∃ g cap, v' = .slice (some ⟨g, 0, none⟩) (bs.length + 1) cap := by
    rcases hown'.2 with ⟨_, h0⟩ | ⟨g, cap, cur, hv, _⟩
    · omega
    · exact ⟨g, cap, hv⟩
  go_wp2_with fail
  go_ret
  refine ⟨rfl, ?_, ?_⟩
  · exact Lib.BuilderAt.put (T := 79) (e := 5) hB hb2 (bs' := bs ++ [.int .u8 c]) (by simpa using hown') (by decide)
  · exact ((hb1.alloc (by have := hb1.size; omega) _).grown hgrow (by have := hb1.size; simp; omega) (fun k hk => (hown.lt k hk).1)).setCell (p := ⟨b, 1, none⟩) hB _
theorem bld_on {B b : Nat} {bs : List Value} {w w' : World} (h : Lib.IsBuilder 79 5 B b bs w) (k : Below w.heap.size w w') : Lib.IsBuilder 79 5 B b bs w' := by
  have one : ∀ p, Lib.BuilderAt 79 5 B b p bs w → Lib.BuilderAt 79 5 B b p bs w' := fun p q => by
    obtain ⟨hB, v, hb, hown, hne⟩ := q
    refine ⟨hB, v, (k.block _ (blk_lt hb)).trans hb, ?_, hne⟩
    rcases hown.2 with h0 | ⟨g, cap, cur, rfl, hbg, hg, hr⟩
    · exact ⟨hown.1, .inl h0⟩
    · exact ⟨hown.1, .inr ⟨g, cap, cur, rfl, hbg, (k.block _ (blk_lt hg)).trans hg, hr⟩⟩
  rcases h with h | h
  · exact .inl (one _ h)
  · exact .inr (one _ h)
theorem bs_line (A x : List UInt8) : (Lib.byteCells A ++ Lib.strCells (txB x)) ++ [.int .u8 10] = Lib.byteCells (A ++ (x ++ [10])) := by
  simp [Lib.byteCells, Lib.strCells, txB]
set_option maxHeartbeats 4000000 in
theorem lprint_any (w : World) (g : Gl w) (oa : Option Addr) (len cap : Nat) (z : Nat → Ins) (h1 : SlArgN w oa len cap 6 (fun i j => (z i).f j)) (hz : ∀ i, i < len → (z i).Wf) (hlen : len ≤ 1000000) :
    Calls Tryd.prog 18 #[.slice oa len cap] w fun x w' => x = .returned (.tuple #[.string (txB (prP (pz z len)).1), .int .i64 (prP (pz z len)).2]) ∧ Below w.heap.size w w' := by
  by_cases hn : 256 < len
  · have HQ := Lib.hid (prP_long (z := z) hn)
    have hnI : (256 : Int) < len := by omega
    clear hn h1
    go_enter Tryd.func18, Tryd.ntmps18
    go_wp2_with fail
    go_ret2
    exact ⟨by rw [HQ.out]; rfl, Below.refl _ _⟩
  · have hnI : ¬ (256 : Int) < len := by omega
    have HLN := Lib.hid hn
    have HWF := Lib.hid hz
    have hl256 : len ≤ 256 := by omega
    clear hn hz
    have hB0 := (Below.refl w.heap.size w).alloc (Nat.le_refl _) (.cells #[.pointer none, .slice none 0 0] 79)
    have hA0 : Lib.IsBuilder 79 5 w.heap.size w.heap.size (Lib.byteCells []) (w.alloc (.cells #[.pointer none, .slice none 0 0] 79)) :=
      .inl ⟨Nat.le_refl _, _, heap_alloc_new w _, World.ownsRow_nil _ _ _ _, by simp [Value.ownBlock]⟩
    go_enter Tryd.func18, Tryd.ntmps18
    go_upto_region 4 with fail
    generalize w.alloc (.cells #[.pointer none, .slice none 0 0] 79) = w1 at hB0 hA0 ⊢
    obtain ⟨B, hBB⟩ : ∃ B, B = w.heap.size := ⟨_, rfl⟩
    rw [← hBB] at hA0 ⊢
    have hwB : w.heap.size ≤ B := by omega
    have HBB := Lib.hid hBB
    clear hBB
    go_wp2_with fail
    go_loopw [14] (fun kv wr => ∃ k : Nat, kv = .int .i64 k ∧ k ≤ len ∧ Lib.IsBuilder 79 5 B B (Lib.byteCells (prT (pz z k))) wr ∧ Hid ((prT (pz z k)).length ≤ 157 * k) ∧ Hid (∀ j, j < k → (z j).chk = 0) ∧ Below w.heap.size w wr) (fun kv _ => len - (intOf kv).toNat)
    case atStart => exact ⟨0, rfl, Nat.zero_le _, hA0, Lib.hid (Nat.zero_le _), Lib.hid (fun j hj => absurd hj (Nat.not_lt_zero _)), hB0⟩
    case round =>
      clear hA0 hB0
      obtain ⟨k, rfl, hk, hA, HT, HC, hB⟩ := hrel
      by_cases hlt : k < len
      · have hltI : (k : Int) < len := by omega
        have h0k : (0 : Int) ≤ k := by omega
        obtain ⟨gb, off, rfl, hg, a0, a1, a2, a3, a4, a5⟩ := six h1 hB (Nat.le_refl _) hlt
        have hwk := HWF.out k hlt
        have hL := fun x gx => lline_any (z k) hwk x gx
        have HLL := Lib.hid (fun (h : (z k).chk = 0) => lin_len (z k) hwk h)
        have HLNB := Lib.hid (fun (h : (z k).chk = 0) => (show lnB (z k) = txB (lin (z k)) by unfold lnB; rw [if_pos h]; rfl))
        have HBAD := Lib.hid (fun (h : (z k).chk ≠ 0) => prP_bad hlt HLN.out HC.out h)
        obtain ⟨ck, hck⟩ : ∃ c, c = (z k).chk := ⟨_, rfl⟩
        rw [← hck] at hL HLL HBAD HLNB
        have HCK := Lib.hid hck
        clear hck
        obtain ⟨D, hD⟩ : ∃ D, D = lnB (z k) := ⟨_, rfl⟩
        rw [← hD] at hL HLNB
        clear hD
        have HZ := Lib.hid (prT_snoc z k)
        obtain ⟨ln, hln⟩ : ∃ ln, ln = lin (z k) := ⟨_, rfl⟩
        rw [← hln] at HLL HLNB HZ
        clear hln hwk
        have HCN := Lib.hid (show ck = 0 → ∀ j, j < k + 1 → (z j).chk = 0 from fun h0 j hj => by
          by_cases e : j = k
          · rw [e, ← HCK.out]; exact h0
          · exact HC.out j (by omega))
        generalize z k = e at a0 a1 a2 a3 a4 a5 hL HCK
        obtain ⟨o, a, b, c, d, kk⟩ := e
        simp only at a0 a1 a2 a3 a4 a5
        simp only [Ins.val] at hL
        clear HCK
        have hI : (wr.alloc (.cells #[.int .i64 o, .int .i64 a, .int .i64 b, .int .i64 c, .int .i64 d, .int .u32 kk] 24)).heap[wr.heap.size]? = some (.cells (Ins.cells ⟨o, a, b, c, d, kk⟩).toArray 24 (0, 0)) := heap_alloc_new wr _
        have hkA := (Below.refl wr.heap.size wr).alloc (Nat.le_refl _) (.cells #[.int .i64 o, .int .i64 a, .int .i64 b, .int .i64 c, .int .i64 d, .int .u32 kk] 24)
        go_upto_region 7 with fail
        generalize wr.alloc (.cells #[.int .i64 o, .int .i64 a, .int .i64 b, .int .i64 c, .int .i64 d, .int .u32 kk] 24) = w2 at hI hkA ⊢
        generalize wr.heap.size = x at hI ⊢
        have hA2 := bld_on hA hkA
        have hB2 := bel_next hB hkA
        have g2 := g.on hB2
        obtain ⟨c0, c1, c2, c3, c4, c5⟩ := ins_cells hI
        simp only at c0 c1 c2 c3 c4 c5
        clear hA hB hkA hI a0 a1 a2 a3 a4 a5
        go_wp2_with fail
        refine (hL _ g2).mono ?_
        rintro e w3 ⟨rfl, hk3⟩
        have hA3 := bld_on hA2 hk3
        have hB3 := bel_next hB2 hk3
        clear hA2 hB2 hk3 hL c0 c1 c2 c3 c4 c5 g2
        by_cases h0 : ck = 0
        · have hD := HLNB.out h0
          have hll := HLL.out h0
          have hDz : D.size ≤ 156 := by rw [hD, txB_size]; exact hll
          have HCN2 := Lib.hid (HCN.out h0)
          have d0 : (ck != 0) = false := by rw [h0]; rfl
          have HDD := Lib.hid hD
          have hTl := HT.out
          have hs3 : B ≤ w3.heap.size := by rw [HBB.out]; exact hB3.size
          have hws := bwstr_any hA3 D (by rw [Lib.byteCells_length]; omega) hs3
          have hwb := fun (w4 : World) (h : Lib.BuilderAt 79 5 B B (.pointer (some ⟨B, 0, none⟩)) (Lib.byteCells (prT (pz z k)) ++ Lib.strCells D) w4) (h2 : B ≤ w4.heap.size) => bwbyte_any (.inr h) 10 (by rw [List.length_append, Lib.byteCells_length, Lib.strCells_length]; omega) h2
          have HTN := Lib.hid (show (prT (pz z (k + 1))).length ≤ 157 * (k + 1) by
            rw [HZ.out, List.length_append, List.length_append]
            simp
            omega)
          clear h0 HBAD HLL HLNB HCN hD hll hTl hA3
          go_wp2_with fail
          refine hws.mono ?_
          rintro e w4 ⟨rfl, hA4, hk4⟩
          have hs4 : B ≤ w4.heap.size := Nat.le_trans hs3 hk4.size
          have hB4 : Below w.heap.size w w4 := hB3.trans (by rw [← HBB.out]; exact hk4)
          have hwb := hwb w4 hA4 hs4
          clear hws hA4 hk4 hB3
          go_wp2_with fail
          refine hwb.mono ?_
          rintro e w5 ⟨rfl, hA5, hk5⟩
          have hB5 : Below w.heap.size w w5 := hB4.trans (by rw [← HBB.out]; exact hk5)
          clear hwb hB4 hk5
          go_wp2_with fail
          go_roundw
          case rel => exact ⟨k + 1, by go_num, by omega, .inr (by rw [HZ.out, ← bs_line, ← HDD.out]; exact hA5), HTN, HCN2, hB5⟩
          case measure => simp [intOf]; omega
        · have HQ := Lib.hid (HBAD.out h0)
          have d0 : (ck != 0) = true := by rw [bne_iff_ne]; exact h0
          clear h0
          go_wp2_with fail
          go_ret2
          exact ⟨by rw [HQ.out]; rfl, hB3⟩
      · have hltI : ¬ (k : Int) < len := by omega
        obtain rfl : k = len := by omega
        have HQ := Lib.hid (prP_ok HLN.out HC.out)
        have hs := Tryd.Builder_String_any B B (prT (pz z k)) wr hA (by rw [HBB.out]; exact hB.size)
        clear hA
        go_wp2_with fail
        refine hs.mono ?_
        rintro e w2 ⟨rfl, hk2⟩
        have hB2 : Below w.heap.size w w2 := hB.trans (by rw [← HBB.out]; exact hk2)
        go_wp2_with fail
        go_ret2
        exact ⟨by rw [HQ.out]; rfl, hB2⟩
end Go.Proofs.YtghfkpddkmaflaaDoor
