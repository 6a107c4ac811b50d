/- law09.one, law09.awake. No condition. -/
import Derived.Test.YthdenjokedmcfaaHuA
import Derived.Test.YthdenjokedmcfaaStr
import Derived.Test.YthdenjokedmcfaaHuF
import Derived.Test.YthdenjokedmcfaaBW
import Derived.Deep.DeepCutAuto
import Derived.Deep.RegionHeld3
namespace Go.Proofs.Ythdenjokedmcfaa
open Go.RowKit
set_option linter.unusedVariables false
set_option linter.unusedSimpArgs false
set_option maxRecDepth 20000
theorem eH_wf : eH.Wf := ⟨by decide, by decide, by decide, by decide, by decide, by decide, by decide⟩
theorem one_any (w : World) (seq : Nat) (hseq : seq < 4294967296) (hE : frE (fun _ => eH) 1 = 0) : Calls Try.prog 28 #[.int .u32 seq] w fun x w' => x = .returned (.string ⟨(fL seq).toArray⟩) ∧ Below w.heap.size w w' := by
  have hs1 := slN_one' w eH
  have hB1 := (Below.refl w.heap.size w).alloc (Nat.le_refl _) (.cells eH.cells.toArray 85)
  have hp := rfprint_any _ seq hseq _ 1 1 (fun _ => eH) hs1 (fun _ _ => eH_wf) (by decide)
  have e : frS seq (fun _ => eH) 1 = fL seq := rfl
  rw [hE, e] at hp
  clear hs1 e
  simp only [eH, Ev.cells] at hB1 hp
  have HP := Lib.hid (And.intro hp hB1)
  clear hp hB1
  go_enter Try.func28, Try.ntmps28
  go_wp2_with fail
  refine HP.out.1.mono ?_
  rintro x w2 ⟨rfl, hk⟩
  have hB2 := HP.out.2.trans (hk.mono HP.out.2.size)
  go_wp2_with fail
  go_ret
  exact ⟨rfl, hB2⟩
theorem ItIn.cells {w : World} {lo n cap : Nat} {ao : Option Addr} {l : List Itm} (h : ItIn w lo (.slice ao n cap) l) (hn : n = l.length) (hl : 0 < l.length) : ∃ g, ao = some ⟨g, 0, none⟩ ∧ lo ≤ g ∧ l.length ≤ cap ∧ cap ≤ maxLen ∧ g < w.heap.size ∧ ∀ (j : Nat) (u : Value), (itCells l)[j]? = some u → w.cell? ⟨g, j, none⟩ = some u := by
  subst hn
  have h0 := h.own
  rcases h0.2 with ⟨h1, h2⟩ | ⟨g, cp, cur, h1, hlo, hb, hnc, hcm, hrest⟩
  · simp only [Value.slice.injEq] at h1
    omega
  · simp only [Value.slice.injEq] at h1
    obtain ⟨rfl, _, rfl⟩ := h1
    refine ⟨g, rfl, hlo, hnc, hcm, blk_lt hb, fun j u hj => ?_⟩
    have := h0.cells rfl j u hj
    rw [Go.WideShapes.add_plain, Nat.zero_add] at this
    exact this
theorem BRow.below {w w' : World} {b : Nat} {l : List UInt8} (h : BRow w b l) (k : Below w.heap.size w w') : BRow w' b l := by
  obtain ⟨C, fz, h1, h2⟩ := h
  exact ⟨C, fz, (k.block b (blk_lt h1)).trans h1, h2⟩
theorem BRow.only {S : Nat → Prop} {w w' : World} {b : Nat} {l : List UInt8} (h : BRow w b l) (o : Only S w w') (hn : ¬ S b) : BRow w' b l := by
  obtain ⟨C, fz, h1, h2⟩ := h
  exact ⟨C, fz, o.keeps h1 hn, h2⟩
theorem bel_next {a b c : World} (h : Below a.heap.size a b) (k : Below b.heap.size b c) : Below a.heap.size a c := h.trans (k.mono h.size)
set_option maxHeartbeats 8000000 in
theorem awake9 (w : World) : Calls Try.prog 19 #[] w fun e w' => e = .returned (.bool true) ∧ Below w.heap.size w w' := by
  obtain ⟨S0, hS0⟩ : ∃ S : ByteArray, S = ⟨(fL 0).toArray⟩ := ⟨_, rfl⟩
  obtain ⟨S2, hS2⟩ : ∃ S : ByteArray, S = ⟨(fL 2).toArray⟩ := ⟨_, rfl⟩
  obtain ⟨S3, hS3⟩ : ∃ S : ByteArray, S = ⟨(fL 3).toArray⟩ := ⟨_, rfl⟩
  obtain ⟨S4, hS4⟩ : ∃ S : ByteArray, S = ⟨(fL 4).toArray⟩ := ⟨_, rfl⟩
  obtain ⟨X1, hX1⟩ : ∃ S : ByteArray, S = ⟨(fL 0 ++ (fL 2).take 30).toArray⟩ := ⟨_, rfl⟩
  obtain ⟨X2, hX2⟩ : ∃ S : ByteArray, S = ⟨(fL 2 ++ hb3 ++ fL 4).toArray⟩ := ⟨_, rfl⟩
  obtain ⟨SB, hSB⟩ : ∃ S : ByteArray, S = ⟨hb3.toArray⟩ := ⟨_, rfl⟩
  have o0 := fun W => one_any W 0 (by decide) (ha_0 0 (.inl rfl)).1
  have o2 := fun W => one_any W 2 (by decide) (ha_0 0 (.inl rfl)).1
  have o3 := fun W => one_any W 3 (by decide) (ha_0 0 (.inl rfl)).1
  have o4 := fun W => one_any W 4 (by decide) (ha_0 0 (.inl rfl)).1
  have z0 : S0.size = 63 := by rw [hS0]; exact (ha_0 0 (.inl rfl)).2
  have z2 : S2.size = 63 := by rw [hS2]; exact (ha_0 2 (.inr (.inl rfl))).2
  have z3 : S3.size = 63 := by rw [hS3]; exact (ha_0 3 (.inr (.inr (.inl rfl)))).2
  have z4 : S4.size = 63 := by rw [hS4]; exact (ha_0 4 (.inr (.inr (.inr rfl)))).2
  have zB : SB.size = 63 := by rw [hSB, ha_8]; show (List.toArray _).size = 63; rw [List.size_toArray, List.length_set]; exact ha_len 3 (.inr (.inr (.inl rfl)))
  have a3 : (⟨#[]⟩ : ByteArray) ++ (S0 ++ S2.extract 0 30) = X1 := by rw [hS0, hS2, hX1]; exact ha_3
  have a4 : X1.extract 63 93 ++ (S2.extract 30 63 ++ SB ++ S4) = X2 := by rw [hS2, hS4, hX1, hX2, hSB]; exact ha_4
  have a5 : X1.size = 93 := by rw [hX1]; exact ha_5
  have a1 : hfin X1 false ⟨[], 0, 0, 0, 0⟩ = ⟨[(1, 0, 0, [eH])], 63, 1, 0, 0⟩ := by rw [hX1]; exact ha_1
  have a2 : hfin X2 false ⟨[], 0, 1, 0, 0⟩ = ⟨[(2, 1, 1, []), (1, 2, 0, [eH]), (2, 3, 1, []), (1, 4, 0, [eH])], 189, 5, 63, 2⟩ := by rw [hX2]; exact ha_2
  rw [← hS0] at o0
  rw [← hS2] at o2
  rw [← hS3] at o3
  rw [← hS4] at o4
  have H3 := Lib.hid hS3
  have HB := Lib.hid hSB
  have o2 : ∀ W : World, Calls Try.prog 28 #[.int .u32 2] W (fun x w' => x = .returned (.string S2) ∧ Below W.heap.size W w') := o2
  have o4 : ∀ W : World, Calls Try.prog 28 #[.int .u32 4] W (fun x w' => x = .returned (.string S4) ∧ Below W.heap.size W w') := o4
  have HA := Lib.hid (And.intro a3 (And.intro a4 (And.intro a1 a2)))
  clear hS0 hS2 hS3 hS4 hX1 hX2 hSB a3 a4 a1 a2
  go_enter Try.func19, Try.ntmps19
  go_wp2_with fail
  refine (make_any _).mono ?_
  rintro x w1 ⟨rfl, hT, hk1⟩
  obtain ⟨tb, htb⟩ : ∃ tb, tb = w.heap.size := ⟨_, rfl⟩
  rw [← htb] at hT ⊢
  have HTB := Lib.hid htb
  clear htb
  go_wp2_with fail
  refine (hnew_any w1 tb).mono ?_
  rintro x w2 ⟨rfl, hH, hk⟩
  have hT2 := hT.kept hk
  have hB2 := hk1.trans (hk.mono hk1.size)
  have hbl := hk1.size
  have htl : tb < w1.heap.size := by obtain ⟨C, h1, _⟩ := hT; exact blk_lt h1
  clear hT hk hk1
  obtain ⟨b, hb⟩ : ∃ b, b = w1.heap.size := ⟨_, rfl⟩
  rw [← hb] at hH hbl htl ⊢
  clear hb
  go_wp2_with fail
  refine (o3 w2).mono ?_
  rintro x w3 ⟨rfl, hk⟩
  have hb3l : b < w3.heap.size := Nat.lt_of_lt_of_le (blk_lt hH) hk.size
  have hT3 := hT2.kept hk
  have hH3 := hH.below hk
  have hB3 := hB2.trans (hk.mono hB2.size)
  clear hT2 hH hB2 hk o3
  have hcv := run_bytes_of_string (P := Try.prog) w3 9 82 5 S3 ul_string ul_bytes (by kernel_rfl)
  have hr0 := BRow.new w3.drew S3 (grownCap w3 S3.size 0 5)
  have hal := ((Below.refl w3.heap.size w3).drew).alloc (Nat.le_refl _) (.cells (bytesRow S3 (grownCap w3 S3.size 0 5)) 5 ((bytesRow S3 (grownCap w3 S3.size 0 5)).size, (bytesRow S3 (grownCap w3 S3.size 0 5)).size + 1))
  generalize w3.drew.alloc (.cells (bytesRow S3 (grownCap w3 S3.size 0 5)) 5 ((bytesRow S3 (grownCap w3 S3.size 0 5)).size, (bytesRow S3 (grownCap w3 S3.size 0 5)).size + 1)) = w4 at hcv hr0 hal
  generalize hcp : grownCap w3 S3.size 0 5 = cp at hcv
  clear hcp
  have hT4 := hT3.kept hal
  have hH4 := hH3.below hal
  have hB4 := hB3.trans (hal.mono hB3.size)
  go_upto_region 5 with fail
  clear hcv hT3 hH3 hB3
  obtain ⟨Rw, hRw⟩ : ∃ R, R = w3.heap.size := ⟨_, rfl⟩
  have hr0 : BRow w4 Rw (fL 3) := by
    have e : S3.data.toList = fL 3 := by rw [H3.out]
    rw [hRw, ← e]; exact hr0
  have hbR : b < Rw := by rw [hRw]; exact hb3l
  rw [← hRw]
  clear hRw hal
  have hq : 56 < (fL 3).length := by rw [ha_len 3 (.inr (.inr (.inl rfl)))]; decide
  have c56 : w4.cell? ⟨Rw, 56, none⟩ = some (.int .u8 0) := by
    have := hr0.cell hq
    have e : (fL 3)[56] = 0 := by have h := ha_7; rw [List.getElem?_eq_getElem hq] at h; simpa using h
    rw [e] at this
    exact this
  have f56 := hr0.frozen hq
  have hx : bits .xor .u8 0 1 = 1 := by decide +kernel
  have hr5 : BRow (w4.setCell ⟨Rw, 56, none⟩ (.int .u8 1)) Rw hb3 := by rw [ha_8]; exact hr0.set (j := 56) 1
  have hbl4 : w.heap.size ≤ Rw := by omega
  have hT5 : IsTab (w4.setCell ⟨Rw, 56, none⟩ (.int .u8 1)) tb := hT4.only ((Only.refl (fun k => k = Rw) w4).setCell _ _ fun _ => rfl) (by omega)
  have hH5 : IsHu (w4.setCell ⟨Rw, 56, none⟩ (.int .u8 1)) b tb ⟨#[]⟩ 0 0 0 false := blk_setCell_other hH4 (show b ≠ Rw by omega) _
  have hB5 : Below w.heap.size w (w4.setCell ⟨Rw, 56, none⟩ (.int .u8 1)) := bel_set2 hB4 _ _ hbl4
  go_upto_region 6 with fail
  generalize w4.setCell ⟨Rw, 56, none⟩ (.int .u8 1) = w5 at hr5 hT5 hH5 hB5 ⊢
  clear hr0 hT4 hH4 hB4 c56 f56 hx
  go_wp2_with fail
  refine (o0 w5).mono ?_
  rintro x w6 ⟨rfl, hk⟩
  have hT6 := hT5.kept hk
  have hH6 := hH5.below hk
  have hR6 := hr5.below hk
  have hB6 := hB5.trans (hk.mono hB5.size)
  clear hT5 hH5 hB5 hr5 hk o0
  go_wp2_with fail
  refine (o2 w6).mono ?_
  rintro x w7 ⟨rfl, hk⟩
  have hT7 := hT6.kept hk
  have hH7 := hH6.below hk
  have hR7 := hR6.below hk
  have hB7 := hB6.trans (hk.mono hB6.size)
  clear hT6 hH6 hB6 hR6 hk
  have hfd := fun hs => feed_any w7 b tb ⟨#[]⟩ (S0 ++ S2.extract 0 30) 0 0 0 hH7 hT7 (by omega) hs (by decide) (by decide) (by decide)
  rw [HA.out.1, HA.out.2.2.1] at hfd
  have ze : (S2.extract 0 30).size = 30 := by rw [ByteArray.size_extract, z2]; rfl
  have hfd := hfd (by rw [ByteArray.size_append, z0, ze]; decide)
  go_wp2_with fail
  refine hfd.mono ?_
  rintro x w8 ⟨ao8, cap8, its8, rfl, hm8, hi8, hH8, ho8⟩
  have hl8 : its8.length = 1 := by have := congrArg List.length hm8; simpa using this
  have hT8 := hT7.only ho8 (by omega)
  have hR8 := hR7.only ho8 (by omega)
  have hbw : w.heap.size ≤ b := hbl
  have hB8 : Below w.heap.size w w8 := ((Only.of_below hB7 (fun k => k = b)).trans ho8 fun _ _ x => x).below (Nat.le_refl _) fun i hi h => by omega
  simp only at hH8
  rw [a5] at hH8
  clear hfd hT7 hH7 hR7 hB7 hm8 hi8 ho8
  rw [hl8]
  have hcv := fun (W : World) (h : BRow W Rw hb3) => run_str_cells (P := Try.prog) (w := W) (g := Rw) (n := 63) (cap := cp) (src := 82) (dst := 9) (e := 5) (l := hb3) (fun j hj => h.cell hj) (by rw [ha_8, List.length_set, ha_len 3 (.inr (.inr (.inl rfl)))]) (by kernel_rfl) (by kernel_rfl) (by kernel_rfl)
  rw [← HB.out] at hcv
  have hf2 := fun (W : World) (k : Below w8.heap.size w8 W) hs => feed_any W b tb (X1.extract 63 93) (S2.extract 30 63 ++ SB ++ S4) 1 0 0 (hH8.below k) (hT8.kept k) (by omega) hs (by decide) (by decide) (by decide)
  rw [HA.out.2.1, HA.out.2.2.2] at hf2
  have ze2 : (S2.extract 30 63).size = 33 := by rw [ByteArray.size_extract, z2]; rfl
  have zx : (X1.extract 63 93).size = 30 := by rw [ByteArray.size_extract, a5]; rfl
  have hf2 := fun W k => hf2 W k (by rw [ByteArray.size_append, ByteArray.size_append, ze2, zB, z4, zx]; decide)
  have hbR8 : Rw ≠ b := by omega
  go_upto_region 7 with fail
  have hcX : ∀ {W : World}, Below w8.heap.size w8 W → BRow W Rw hb3 := fun k => hR8.below k
  go_cut [5] (fun u wx => ∃ ao cap its, u = .slice ao 4 cap ∧ its.map Itm.p = [(2, 1, 1, []), (1, 2, 0, [eH]), (2, 3, 1, []), (1, 4, 0, [eH])] ∧ (∃ lo, ItIn wx lo (.slice ao 4 cap) its) ∧ IsHu wx b tb (X2.extract 189 X2.size) 5 63 2 false ∧ Below w.heap.size w wx)
  case first =>
    have c0 := (Below.refl w8.heap.size w8).drew
    obtain ⟨SF, hF2, hF4⟩ : ∃ SF : Int → ByteArray, SF 2 = S2 ∧ SF 4 = S4 := ⟨fun n => if n = 2 then S2 else S4, rfl, rfl⟩
    have oX : ∀ (W : World) (n : Int), (n = 2 ∨ n = 4) → Calls Try.prog 28 #[.int .u32 n] W (fun x w' => x = .returned (.string (SF n)) ∧ Below W.heap.size W w') := by
      rintro W n (rfl | rfl)
      · rw [hF2]; exact o2 W
      · rw [hF4]; exact o4 W
    clear o2 o4
    go_region_held3 (fun w' => BRow w' Rw hb3) (first | exact hR8 | exact hcX c0 | assumption) (first | (go_at_call 28; (refine (oX _ _ ?_).mono ?_); (first | exact .inl rfl | exact .inr rfl); rintro x wA ⟨rfl, hkA⟩; first | (have hkWA : Below w8.heap.size w8 wA := bel_next c0 hkA; have hRA := hcX hkWA) | (have hkWA : Below w8.heap.size w8 wA := bel_next (by assumption) hkA; have hRA := hcX hkWA)) | (go_at_call 21; (refine (hf2 _ ?_).mono ?_); assumption; rintro x wC ⟨ao9, cap9, its9, rfl, hm9, hi9, hH9, ho9⟩; have hR9 : BRow wC Rw hb3 := by (refine BRow.only (hcX ?_) ho9 hbR8; assumption)))
    all_goals (go_wp2_with fail; go_meet)
    have hl9 : its9.length = 4 := by have := congrArg List.length hm9; simpa using this
    rw [hl9] at hi9 ⊢
    exact ⟨ao9, cap9, its9, rfl, hm9, ⟨_, hi9⟩, hH9, ((Only.of_below (hB8.trans ((show Below w8.heap.size w8 wA from hkWA).mono hB8.size)) (fun k => k = b)).trans ho9 fun _ _ x => x).below (Nat.le_refl _) fun i hi h => by omega⟩
  case rest =>
    obtain ⟨ao, cap, its, rfl, hm, ⟨lo, hit⟩, hH9, hB9⟩ := hcut
    clear hcv hf2 hcX hH8 hT8 hR8 hB8 o2 o4
    match its, hm with
    | [i0, i1, i2, i3], hm =>
      simp only [List.map_cons, List.map_nil, Itm.p, List.cons.injEq, Prod.mk.injEq, and_true] at hm
      obtain ⟨⟨k0, s0, l0, e0⟩, ⟨k1, s1, l1, e1⟩, ⟨k2, s2, l2, e2⟩, ⟨k3, s3, l3, e3⟩⟩ := hm
      obtain ⟨g, rfl, hgl, hlc, hcm, hgs, hc⟩ := hit.cells rfl (by simp)
      have c0 := hc 0 (.int .i64 2) (by simp [itCells, Itm.cells, k0])
      have c1 := hc 1 (.int .u32 1) (by simp [itCells, Itm.cells, s0])
      have c2 := hc 2 (.int .u32 1) (by simp [itCells, Itm.cells, l0])
      have c13 := hc 13 (.int .u32 4) (by simp [itCells, Itm.cells, s3])
      clear hc hit
      have n1 := hnext_any _ b tb _ _ _ _ _ hH9
      have n2 := hlost_any _ b tb _ _ _ _ _ hH9
      have n3 := hskipped_any _ b tb _ _ _ _ _ hH9
      go_wp2_with (first | (go_at_call 25; refine n1.mono ?_; rintro x wy ⟨rfl, rfl⟩) | (go_at_call 27; refine n2.mono ?_; rintro x wy ⟨rfl, rfl⟩) | (go_at_call 26; refine n3.mono ?_; rintro x wy ⟨rfl, rfl⟩))
      go_ret
      exact ⟨rfl, hB9⟩
end Go.Proofs.Ythdenjokedmcfaa
