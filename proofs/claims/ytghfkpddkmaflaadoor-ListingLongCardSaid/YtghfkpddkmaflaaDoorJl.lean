/- Contract of the reference's Line (layer 11). No condition but those that it names. -/
import Derived.Test.YtghfkpddkmaflaaDoorIt
import Derived.Test.YtghfkpddkmaflaaDoorIv
namespace Go.Proofs.YtghfkpddkmaflaaDoor
open Go Go.RowKit
set_option linter.unusedVariables false
set_option linter.unusedSimpArgs false
set_option maxRecDepth 20000
theorem joinW_snoc : ∀ (L : List (List UInt8)) (h : L ≠ []) (x : List UInt8), joinW (L ++ [x]) = joinW L ++ 32 :: x
  | [], h, _ => absurd rfl h
  | [y], _, x => rfl
  | y :: z :: r, _, x => by
    show y ++ 32 :: joinW ((z :: r) ++ [x]) = (y ++ 32 :: joinW (z :: r)) ++ 32 :: x
    rw [joinW_snoc (z :: r) (by simp) x]
    simp
theorem tx_snoc (L : List (List UInt8)) (h : L ≠ []) (x : List UInt8) (S D : ByteArray) (hS : S = txB (joinW L)) (hD : D = txB x) : S ++ (⟨#[32]⟩ ++ D) = txB (joinW (L ++ [x])) := by
  rw [hS, hD, joinW_snoc L h x]
  apply ByteArray.ext
  apply Array.toList_inj.1
  simp [txB, ByteArray.data_append]
theorem RB_size (n : Int) (h : n < 100) : (RB n).size ≤ 21 := by
  have := dig_len n.toNat (by omega)
  show (rgL n).toArray.size ≤ 21
  rw [List.size_toArray]
  show (Lib.decDigits n.toNat).length + 1 ≤ 21
  omega
theorem mdB_size (d : Int) : (mdB d).size ≤ 21 := by
  unfold mdB
  repeat' split
  all_goals decide
theorem rmodeB (d : Int) (w : World) : Calls Tryd.prog 31 #[.int .i64 d] w fun e w' => e = .returned (.string (mdB d)) ∧ Below w.heap.size w w' := (rmode_any d w).mono fun e w' h => ⟨h.1, by rw [← h.2]; exact Below.refl _ _⟩
theorem inm_size (o : Int) : (inm o).size ≤ 21 := by
  have := inm_len o
  have h : (inm o).size = (inm o).data.toList.length := by simp
  omega
set_option maxHeartbeats 4000000 in
theorem rline_any (i : Ins) (hi : i.Wf) (hck : i.chk = 0) (w : World) : Calls Tryd.prog 12 #[i.val] w fun x w' => x = .returned (.string (txB (lin i))) ∧ Below w.heap.size w w' := by
  obtain ⟨hoo, fa, fb, fd, fc⟩ := okB_facts hck
  have hhas := fun x => rhas_any i.o x
  obtain ⟨e1, e2, e3, e4, e5⟩ := hs_in i.o
  have hz := hs_size i.o
  have mA := fun x => rin_any (hs i.o) 65 (by omega) x
  have mB := fun x => rin_any (hs i.o) 66 (by omega) x
  have mC := fun x => rin_any (hs i.o) 67 (by omega) x
  have mD := fun x => rin_any (hs i.o) 68 (by omega) x
  have mK := fun x => rin_any (hs i.o) 75 (by omega) x
  rw [e1] at mA
  rw [e2] at mB
  rw [e3] at mC
  rw [e4] at mD
  rw [e5] at mK
  clear e1 e2 e3 e4 e5 hz
  have bk := hi.k
  clear hi hck
  obtain ⟨M, hM⟩ : ∃ M, M = linW i := ⟨_, rfl⟩
  have hL : lin i = joinW M := by rw [hM]; rfl
  rw [hL]
  clear hL
  unfold linW hC at hM
  obtain ⟨o, a, b, c, d, k⟩ := i
  unfold Ins.val
  simp only [hC] at hoo fa fb fd fc hhas mA mB mC mD mK bk hM ⊢
  generalize hs o = H at hhas mA mB mC mD mK
  generalize uA o = hA at fa hM mA
  generalize uB o = hB at fb hM mB
  generalize uC o = cC at fc hM mC
  generalize uD o = dD at fd fc hM mD
  generalize uK o = kK at hM mK
  have HM := Lib.hid hM
  clear hM
  have mA : ∀ x, Calls Tryd.prog 28 #[.string H, .int .u8 65] x fun e w' => e = .returned (.bool hA) ∧ x = w' := mA
  have mB : ∀ x, Calls Tryd.prog 28 #[.string H, .int .u8 66] x fun e w' => e = .returned (.bool hB) ∧ x = w' := mB
  have mC : ∀ x, Calls Tryd.prog 28 #[.string H, .int .u8 67] x fun e w' => e = .returned (.bool cC) ∧ x = w' := mC
  have mD : ∀ x, Calls Tryd.prog 28 #[.string H, .int .u8 68] x fun e w' => e = .returned (.bool dD) ∧ x = w' := mD
  have mK : ∀ x, Calls Tryd.prog 28 #[.string H, .int .u8 75] x fun e w' => e = .returned (.bool kK) ∧ x = w' := mK
  have hO : (w.alloc (.cells #[.int .i64 o, .int .i64 a, .int .i64 b, .int .i64 c, .int .i64 d, .int .u32 k] 24)).heap[w.heap.size]? = some (.cells (Ins.cells ⟨o, a, b, c, d, k⟩).toArray 24 (0, 0)) := heap_alloc_new w _
  have hB1 := (Below.refl w.heap.size w).alloc (Nat.le_refl _) (.cells #[.int .i64 o, .int .i64 a, .int .i64 b, .int .i64 c, .int .i64 d, .int .u32 k] 24)
  go_enter Tryd.func12, Tryd.ntmps12
  go_upto_region 1 with fail
  generalize w.alloc (.cells #[.int .i64 o, .int .i64 a, .int .i64 b, .int .i64 c, .int .i64 d, .int .u32 k] 24) = w1 at hO hB1 ⊢
  obtain ⟨p, hp⟩ : ∃ p, p = w.heap.size := ⟨_, rfl⟩
  rw [← hp] at hO ⊢
  clear hp
  have hp1 := blk_lt hO
  obtain ⟨c0, c1, c2, c3, c4, c5⟩ := ins_cells hO
  simp only at c0 c1 c2 c3 c4 c5
  go_wp2_with fail
  refine (hhas _).mono ?_
  rintro e w2 ⟨rfl, rfl⟩
  go_upto_region 2 with fail
  go_cut [4] (fun u wx => ∃ S : ByteArray, u = .string S ∧ S.size ≤ 21 ∧ Hid (S = txB (joinW [(inm o).data.toList])) ∧ Below w1.heap.size w1 wx)
  case first =>
    obtain ⟨q, hq⟩ : ∃ q : Nat, o = q := ⟨o.toNat, by omega⟩
    have hq39 : q < 39 := by omega
    have hS : w1.cell? ⟨p, 0, none⟩ = some (.int .i64 o) := c0
    have hoI : (0 : Int) ≤ o := by omega
    have hoI2 : o < 39 := by omega
    have hoN : o.toNat = q := by omega
    have HQ := Lib.hid hq
    clear hq
    refine wp_region_held_drew (S := fun w' => w'.cell? ⟨p, 0, none⟩ = some (.int .i64 o)) (by kernel_rfl) hS (fun hHeld => ?_)
    refine wpAnyH_take (i := 1) (v := ?_) rfl (by kernel_rfl) (by kernel_rfl) (by kernel_rfl) (fun _ _ _ h => h) (Or.inl ⟨by rfl, ?_⟩) (by assumption) ?_
    rotate_left
    · intro w hSw
      try dsimp only at hSw
      go_simp
      try with_reducible rfl
    try simp only [Act.put, List.setIfInBounds_toArray, List.set_cons_zero, List.set_cons_succ]
    refine wpAnyH_take (i := 2) (v := ?_) rfl (by kernel_rfl) (by kernel_rfl) (by kernel_rfl) (fun _ _ _ h => h) (Or.inl ⟨by rfl, ?_⟩) (by assumption) ?_
    rotate_left
    · intro w hSw
      try dsimp only at hSw
      go_simp
      try with_reducible rfl
    try simp only [Act.put, List.setIfInBounds_toArray, List.set_cons_zero, List.set_cons_succ]
    refine wpAnyH_ready (rs := [0]) (by kernel_rfl) (by simp) ?_
    refine AllReadyH.cons rfl (fun K hK => ?_) AllReadyH.nil
    go_simp
    refine (rinames_any _).mono ?_
    rintro y wC ⟨rfl, hnC, hkC, hltC⟩
    have hkC := (Below.refl w1.heap.size w1).drew.trans (show Below w1.heap.size w1.drew wC from hkC)
    have c0' := (ins_cells ((hkC.block _ hp1).trans hO)).1
    have hnc : wC.cell? ⟨w1.heap.size, q, none⟩ = some (.string (inm o)) := by
      have := hnC.cell hq39
      rw [← HQ.out] at this
      exact this
    have hnc2 : wC.cell? ⟨w1.heap.size, o.toNat, none⟩ = some (.string (inm o)) := by rw [hoN]; exact hnc
    refine hK.out _ _ (c0') (fun hHeld => ?_)
    clear hK K
    try simp only [Act.put, List.setIfInBounds_toArray, List.set_cons_zero, List.set_cons_succ]
    refine wpAnyH_take (i := 3) (v := ?_) rfl (by kernel_rfl) (by kernel_rfl) (by kernel_rfl) (fun _ _ _ h => h) (Or.inl ⟨by rfl, ?_⟩) (by assumption) ?_
    rotate_left
    · intro w hSw
      try dsimp only at hSw
      go_simp
      try with_reducible rfl
    try simp only [Act.put, List.setIfInBounds_toArray, List.set_cons_zero, List.set_cons_succ]
    refine wpAnyH_ready (rs := [4]) (by kernel_rfl) (by simp) ?_
    refine AllReadyH.cons rfl (fun K hK => ?_) AllReadyH.nil
    go_simp
    refine hK.out _ _ (c0') (fun hHeld => ?_)
    clear hK K
    try simp only [Act.put, List.setIfInBounds_toArray, List.set_cons_zero, List.set_cons_succ]
    refine wpAnyH_take (i := 5) (v := ?_) rfl (by kernel_rfl) (by kernel_rfl) (by kernel_rfl) (fun _ _ _ h => h) (Or.inl ⟨by rfl, ?_⟩) (by assumption) ?_
    rotate_left
    · intro w hSw
      try dsimp only at hSw
      go_simp
      try with_reducible rfl
    try simp only [Act.put, List.setIfInBounds_toArray, List.set_cons_zero, List.set_cons_succ]
    refine wpAnyH_done (by kernel_rfl) ?_ _
    simp only [Act.put, List.setIfInBounds_toArray, List.set_cons_zero, List.set_cons_succ, List.getElem_toArray, List.getElem_cons_succ, List.getElem_cons_zero]
    go_wp2_with fail
    go_meet
    exact ⟨inm o, rfl, inm_size o, Lib.hid (by show inm o = txB (inm o).data.toList; simp [txB]), hkC⟩
  case rest =>
    obtain ⟨S, rfl, hSz, HS, hBw⟩ := hcut
    clear c0 c1 c2 c3 c4 c5
    go_wp2_with fail
    refine (mA _).mono ?_
    rintro e w2 ⟨rfl, rfl⟩
    go_upto_if 14 with fail
    go_cut [4] (fun u wx => ∃ S : ByteArray, u = .string S ∧ S.size ≤ 44 ∧ Hid (S = txB (joinW ([(inm o).data.toList] ++ if hA = true then [rgL a] else []))) ∧ Below w1.heap.size w1 wx)
    case first =>
      cases hA
      · go_wp2_with fail
        go_meet
        exact ⟨S, rfl, by omega, Lib.hid (by rw [HS.out]; simp), hBw⟩
      · have hq8 := fa rfl
        have hr := fun x => rreg_z a hq8.1 (by omega) x
        have hDz : (RB a).size ≤ 21 := RB_size a (by omega)
        have HT := Lib.hid (tx_snoc [(inm o).data.toList] (by simp) (rgL a) S (RB a) HS.out rfl)
        generalize RB a = D at hr hDz HT
        have y1 : ¬ 9223372036854775807 < 1 + D.size := by omega
        have y2 : ¬ 9223372036854775807 < S.size + (1 + D.size) := by omega
        obtain ⟨c0, c1, c2, c3, c4, c5⟩ := ins_cells ((hBw.block _ hp1).trans hO)
        simp only at c0 c1 c2 c3 c4 c5
        clear fa hq8
        go_wp2_with fail
        refine (hr _).mono ?_
        rintro e w3 ⟨rfl, hk⟩
        have hB3 := bel_next hBw hk
        clear c0 c1 c2 c3 c4 c5 hr
        go_wp2_with fail
        go_meet
        exact ⟨S ++ (⟨#[32]⟩ ++ D), rfl, by rw [ByteArray.size_append, ByteArray.size_append]; show S.size + (1 + D.size) ≤ _; omega, Lib.hid (by rw [HT.out]; rfl), hB3⟩
    case rest =>
      obtain ⟨S, rfl, hSz, HS, hBw⟩ := hcut
      go_wp2_with fail
      refine (mB _).mono ?_
      rintro e w2 ⟨rfl, rfl⟩
      go_upto_if 22 with fail
      go_cut [4] (fun u wx => ∃ S : ByteArray, u = .string S ∧ S.size ≤ 66 ∧ Hid (S = txB (joinW (([(inm o).data.toList] ++ if hA = true then [rgL a] else []) ++ if hB = true then [rgL b] else []))) ∧ Below w1.heap.size w1 wx)
      case first =>
        cases hB
        · go_wp2_with fail
          go_meet
          exact ⟨S, rfl, by omega, Lib.hid (by rw [HS.out]; simp), hBw⟩
        · have hq8 := fb rfl
          have hr := fun x => rreg_z b hq8.1 (by omega) x
          have hDz : (RB b).size ≤ 21 := RB_size b (by omega)
          have HT := Lib.hid (tx_snoc ([(inm o).data.toList] ++ if hA = true then [rgL a] else []) (by simp) (rgL b) S (RB b) HS.out rfl)
          generalize RB b = D at hr hDz HT
          have y1 : ¬ 9223372036854775807 < 1 + D.size := by omega
          have y2 : ¬ 9223372036854775807 < S.size + (1 + D.size) := by omega
          obtain ⟨c0, c1, c2, c3, c4, c5⟩ := ins_cells ((hBw.block _ hp1).trans hO)
          simp only at c0 c1 c2 c3 c4 c5
          clear fb hq8
          go_wp2_with fail
          refine (hr _).mono ?_
          rintro e w3 ⟨rfl, hk⟩
          have hB3 := bel_next hBw hk
          clear c0 c1 c2 c3 c4 c5 hr
          go_wp2_with fail
          go_meet
          exact ⟨S ++ (⟨#[32]⟩ ++ D), rfl, by rw [ByteArray.size_append, ByteArray.size_append]; show S.size + (1 + D.size) ≤ _; omega, Lib.hid (by rw [HT.out]; rfl), hB3⟩
      case rest =>
        obtain ⟨S, rfl, hSz, HS, hBw⟩ := hcut
        go_wp2_with fail
        refine (mD _).mono ?_
        rintro e w2 ⟨rfl, rfl⟩
        go_upto_if 30 with fail
        go_cut [4] (fun u wx => ∃ S : ByteArray, u = .string S ∧ S.size ≤ 88 ∧ Hid (S = txB (joinW ((([(inm o).data.toList] ++ if hA = true then [rgL a] else []) ++ if hB = true then [rgL b] else []) ++ if dD = true then [(mdB d).data.toList] else []))) ∧ Below w1.heap.size w1 wx)
        case first =>
          cases dD
          · go_wp2_with fail
            go_meet
            exact ⟨S, rfl, by omega, Lib.hid (by rw [HS.out]; simp), hBw⟩
          · have hr := fun x => rmodeB d x
            have hDz : (mdB d).size ≤ 21 := mdB_size d
            have HT := Lib.hid (tx_snoc (([(inm o).data.toList] ++ if hA = true then [rgL a] else []) ++ if hB = true then [rgL b] else []) (by simp) ((mdB d).data.toList) S (mdB d) HS.out (by simp [txB]))
            generalize hDD : mdB d = D at hr hDz
            have HDD := Lib.hid hDD
            clear hDD
            have y1 : ¬ 9223372036854775807 < 1 + D.size := by omega
            have y2 : ¬ 9223372036854775807 < S.size + (1 + D.size) := by omega
            obtain ⟨c0, c1, c2, c3, c4, c5⟩ := ins_cells ((hBw.block _ hp1).trans hO)
            simp only at c0 c1 c2 c3 c4 c5
            skip
            go_wp2_with fail
            refine (hr _).mono ?_
            rintro e w3 ⟨rfl, hk⟩
            have hB3 := bel_next hBw hk
            clear c0 c1 c2 c3 c4 c5 hr
            go_wp2_with fail
            go_meet
            exact ⟨S ++ (⟨#[32]⟩ ++ D), rfl, by rw [ByteArray.size_append, ByteArray.size_append]; show S.size + (1 + D.size) ≤ _; omega, Lib.hid (by rw [← HDD.out, HT.out]; rfl), hB3⟩
        case rest =>
          obtain ⟨S, rfl, hSz, HS, hBw⟩ := hcut
          obtain ⟨Hc, hHc⟩ : ∃ h, h = (cC && (!dD || d == 2)) := ⟨_, rfl⟩
          rw [← hHc] at fc HM
          have HC := Lib.hid hHc
          clear hHc
          obtain ⟨c0, c1, c2, c3, c4, c5⟩ := ins_cells ((hBw.block _ hp1).trans hO)
          simp only at c0 c1 c2 c3 c4 c5
          go_upto_region 9 with fail
          go_cut [48] (fun u wx => u = .bool Hc ∧ wx = wc)
          case first =>
            cases cC
            · have HQ := Lib.hid (show Hc = false by rw [HC.out]; simp)
              go_wp2_with fail
              refine (mC _).mono ?_
              rintro e w2 ⟨rfl, rfl⟩
              go_wp2_with fail
              go_meet
              exact ⟨by rw [HQ.out], rfl⟩
            · cases hd2 : (d == 2)
              · have hd2n : (d != 2) = true := by rw [bne, hd2]; rfl
                have HQ := Lib.hid (show Hc = !dD by rw [HC.out, hd2]; simp)
                go_wp2_with fail
                refine (mC _).mono ?_
                rintro e w2 ⟨rfl, rfl⟩
                go_wp2_with fail
                refine (mD _).mono ?_
                rintro e w2 ⟨rfl, rfl⟩
                go_wp2_with fail
                go_meet
                exact ⟨by rw [HQ.out], rfl⟩
              · have HQ := Lib.hid (show Hc = true by rw [HC.out, hd2]; simp)
                go_wp2_with fail
                refine (mC _).mono ?_
                rintro e w2 ⟨rfl, rfl⟩
                go_wp2_with fail
                go_meet
                exact ⟨by rw [HQ.out], rfl⟩
          case rest =>
            obtain ⟨rfl, rfl⟩ := hcut
            clear c0 c1 c2 c3 c4 c5
            go_upto_if 48 with fail
            go_cut [4] (fun u wx => ∃ S : ByteArray, u = .string S ∧ S.size ≤ 110 ∧ Hid (S = txB (joinW (((([(inm o).data.toList] ++ if hA = true then [rgL a] else []) ++ if hB = true then [rgL b] else []) ++ if dD = true then [(mdB d).data.toList] else []) ++ if Hc = true then [rgL c] else []))) ∧ Below w1.heap.size w1 wx)
            case first =>
              cases Hc
              · go_wp2_with fail
                go_meet
                exact ⟨S, rfl, by omega, Lib.hid (by rw [HS.out]; simp), hBw⟩
              · have hq8 := fc rfl
                have hr := fun x => rreg_z c hq8.1 (by omega) x
                have hDz : (RB c).size ≤ 21 := RB_size c (by omega)
                have HT := Lib.hid (tx_snoc ((([(inm o).data.toList] ++ if hA = true then [rgL a] else []) ++ if hB = true then [rgL b] else []) ++ if dD = true then [(mdB d).data.toList] else []) (by simp) (rgL c) S (RB c) HS.out rfl)
                generalize RB c = D at hr hDz HT
                have y1 : ¬ 9223372036854775807 < 1 + D.size := by omega
                have y2 : ¬ 9223372036854775807 < S.size + (1 + D.size) := by omega
                obtain ⟨c0, c1, c2, c3, c4, c5⟩ := ins_cells ((hBw.block _ hp1).trans hO)
                simp only at c0 c1 c2 c3 c4 c5
                clear fc hq8
                go_wp2_with fail
                refine (hr _).mono ?_
                rintro e w3 ⟨rfl, hk⟩
                have hB3 := bel_next hBw hk
                clear c0 c1 c2 c3 c4 c5 hr
                go_wp2_with fail
                go_meet
                exact ⟨S ++ (⟨#[32]⟩ ++ D), rfl, by rw [ByteArray.size_append, ByteArray.size_append]; show S.size + (1 + D.size) ≤ _; omega, Lib.hid (by rw [HT.out]; rfl), hB3⟩
            case rest =>
              obtain ⟨S, rfl, hSz, HS, hBw⟩ := hcut
              go_wp2_with fail
              refine (mK _).mono ?_
              rintro e w2 ⟨rfl, rfl⟩
              go_upto_if 56 with fail
              go_cut [4] (fun u wx => ∃ S : ByteArray, u = .string S ∧ S.size ≤ 132 ∧ Hid (S = txB (joinW ((((([(inm o).data.toList] ++ if hA = true then [rgL a] else []) ++ if hB = true then [rgL b] else []) ++ if dD = true then [(mdB d).data.toList] else []) ++ if Hc = true then [rgL c] else []) ++ if kK = true then [Lib.decDigits k] else []))) ∧ Below w1.heap.size w1 wx)
              case first =>
                cases kK
                · go_wp2_with fail
                  go_meet
                  exact ⟨S, rfl, by omega, Lib.hid (by rw [HS.out]; simp), hBw⟩
                · have hr := fun x => rdig_any k (by unfold FOk; omega) x
                  have hDz : (DB k).size ≤ 21 := by have := DB_size k (by unfold FOk; omega); omega
                  have HT := Lib.hid (tx_snoc (((([(inm o).data.toList] ++ if hA = true then [rgL a] else []) ++ if hB = true then [rgL b] else []) ++ if dD = true then [(mdB d).data.toList] else []) ++ if Hc = true then [rgL c] else []) (by simp) (Lib.decDigits k) S (DB k) HS.out rfl)
                  generalize DB k = D at hr hDz HT
                  have y1 : ¬ 9223372036854775807 < 1 + D.size := by omega
                  have y2 : ¬ 9223372036854775807 < S.size + (1 + D.size) := by omega
                  obtain ⟨c0, c1, c2, c3, c4, c5⟩ := ins_cells ((hBw.block _ hp1).trans hO)
                  simp only at c0 c1 c2 c3 c4 c5
                  skip
                  go_wp2_with fail
                  refine (hr _).mono ?_
                  rintro e w3 ⟨rfl, hk⟩
                  have hB3 := bel_next hBw hk
                  clear c0 c1 c2 c3 c4 c5 hr
                  go_wp2_with fail
                  go_meet
                  exact ⟨S ++ (⟨#[32]⟩ ++ D), rfl, by rw [ByteArray.size_append, ByteArray.size_append]; show S.size + (1 + D.size) ≤ _; omega, Lib.hid (by rw [HT.out]; rfl), hB3⟩
              case rest =>
                obtain ⟨S, rfl, hSz, HS, hBw⟩ := hcut
                go_wp2_with fail
                go_ret
                refine ⟨?_, bel_next hB1 hBw⟩
                have hLM : S = txB (joinW M) := by rw [HS.out, HM.out]; simp only [List.append_assoc, List.cons_append, List.nil_append]
                rw [← hLM]
                rfl
end Go.Proofs.YtghfkpddkmaflaaDoor
