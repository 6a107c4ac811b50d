/- Contract of the reference's Form (layer 10), in parts. No condition but those that each names. -/
import Derived.Test.YtghfkpddkmaflaaDoorIsp
namespace Go.Proofs.YtghfkpddkmaflaaDoor
open Go Go.RowKit
set_option linter.unusedVariables false
set_option linter.unusedSimpArgs false
set_option maxRecDepth 20000
set_option maxHeartbeats 16000000 in
theorem rform_ttt (i : Ins) (hi : i.Wf) (qA : uA i.o = true) (qB : uB i.o = true) (qC : uC i.o = true) (w : World) : Calls Tryd.prog 11 #[i.val] w fun x w' => x = .returned (.int .i64 i.chk) ∧ Below w.heap.size w w' := by
  obtain ⟨r4, h4⟩ : ∃ r : Bool, r = decide (i.a < 0 ∨ 7 < i.a ∨ i.b < 0 ∨ 7 < i.b ∨ i.c < 0 ∨ 7 < i.c ∨ i.d < 0 ∨ 2 < i.d) := ⟨_, rfl⟩
  obtain ⟨r6, h6⟩ : ∃ r : Bool, r = ((!uA i.o && !(i.a == 0)) || ((!uB i.o && !(i.b == 0)) || ((!uC i.o && !(i.c == 0)) || ((!uD i.o && !(i.d == 0)) || (!uK i.o && !((i.k : Int) == 0)))))) := ⟨_, rfl⟩
  obtain ⟨r8, h8⟩ : ∃ r : Bool, r = (uD i.o && (!(i.d == 2) && !(i.c == 0))) := ⟨_, rfl⟩
  obtain ⟨r10, h10⟩ : ∃ r : Bool, r = decide ((i.o = 20 ∧ ((i.k : Int) < 1 ∨ 1000 < (i.k : Int))) ∨ ((i.o = 21 ∨ i.o = 22) ∧ 15 < (i.k : Int))) := ⟨_, rfl⟩
  have hR := chk_ref i r4 r6 r8 r10 h4 h6 h8 h10
  have hhas := fun x => rhas_any i.o x
  obtain ⟨e1, e2, e3, e4, e5⟩ := hs_in i.o
  have hz := hs_size i.o
  have mA := fun x => rin_any (hs i.o) 65 (by omega) x
  have mB := fun x => rin_any (hs i.o) 66 (by omega) x
  have mC := fun x => rin_any (hs i.o) 67 (by omega) x
  have mD := fun x => rin_any (hs i.o) 68 (by omega) x
  have mK := fun x => rin_any (hs i.o) 75 (by omega) x
  rw [e1] at mA
  rw [e2] at mB
  rw [e3] at mC
  rw [e4] at mD
  rw [e5] at mK
  clear e1 e2 e3 e4 e5 hz
  have bk := hi.k
  clear hi
  obtain ⟨R, hRR⟩ : ∃ R, R = i.chk := ⟨_, rfl⟩
  rw [← hRR] at hR ⊢
  clear hRR
  obtain ⟨o, a, b, c, d, k⟩ := i
  unfold Ins.val
  simp only at h4 h6 h8 h10 hR hhas mA mB mC mD mK bk qA qB qC ⊢
  generalize hs o = H at hhas mA mB mC mD mK
  generalize uA o = hA at h6 mA qA
  generalize uB o = hB at h6 mB qB
  subst qA qB
  generalize uC o = cC at h6 h8 mC qC
  subst qC
  generalize uD o = dD at h6 h8 mD
  generalize uK o = kK at h6 h8 mK
  have H4 := Lib.hid h4
  have H6 := Lib.hid h6
  have H8 := Lib.hid h8
  have H10 := Lib.hid h10
  have HR := Lib.hid hR
  clear h4 h6 h8 h10 hR
  have mA : ∀ x, Calls Tryd.prog 28 #[.string H, .int .u8 65] x fun e w' => e = .returned (.bool true) ∧ x = w' := mA
  have mB : ∀ x, Calls Tryd.prog 28 #[.string H, .int .u8 66] x fun e w' => e = .returned (.bool true) ∧ x = w' := mB
  have mC : ∀ x, Calls Tryd.prog 28 #[.string H, .int .u8 67] x fun e w' => e = .returned (.bool true) ∧ x = w' := mC
  have mD : ∀ x, Calls Tryd.prog 28 #[.string H, .int .u8 68] x fun e w' => e = .returned (.bool dD) ∧ x = w' := mD
  have mK : ∀ x, Calls Tryd.prog 28 #[.string H, .int .u8 75] x fun e w' => e = .returned (.bool kK) ∧ x = w' := mK
  have hO : (w.alloc (.cells #[.int .i64 o, .int .i64 a, .int .i64 b, .int .i64 c, .int .i64 d, .int .u32 k] 24)).heap[w.heap.size]? = some (.cells (Ins.cells ⟨o, a, b, c, d, k⟩).toArray 24 (0, 0)) := heap_alloc_new w _
  have hB1 := (Below.refl w.heap.size w).alloc (Nat.le_refl _) (.cells #[.int .i64 o, .int .i64 a, .int .i64 b, .int .i64 c, .int .i64 d, .int .u32 k] 24)
  go_enter Tryd.func11, Tryd.ntmps11
  go_upto_region 1 with fail
  generalize w.alloc (.cells #[.int .i64 o, .int .i64 a, .int .i64 b, .int .i64 c, .int .i64 d, .int .u32 k] 24) = w1 at hO hB1 ⊢
  obtain ⟨p, hp⟩ : ∃ p, p = w.heap.size := ⟨_, rfl⟩
  rw [← hp] at hO ⊢
  clear hp
  obtain ⟨c0, c1, c2, c3, c4, c5⟩ := ins_cells hO
  simp only at c0 c1 c2 c3 c4 c5
  by_cases k1 : o < 1
  · have HQ := Lib.hid (show R = 14 by rw [HR.out, if_neg (by simp [isI]; omega)])
    go_wp2_with fail
    go_ret
    exact ⟨by rw [HQ.out]; rfl, hB1⟩
  by_cases k2 : 38 < o
  · have HQ := Lib.hid (show R = 14 by rw [HR.out, if_neg (by simp [isI]; omega)])
    go_wp2_with fail
    go_ret
    exact ⟨by rw [HQ.out]; rfl, hB1⟩
  have HR2 := Lib.hid (show R = if r4 = true then 5 else if r6 = true then 5 else if r8 = true then 5 else if r10 = true then 5 else 0 by rw [HR.out, if_pos (by simp [isI]; omega)])
  clear HR
  go_wp2_with fail
  refine (hhas _).mono ?_
  rintro e w2 ⟨rfl, rfl⟩
  clear k1 k2
  go_upto_region 4 with fail
  go_cut [52] (fun u wx => u = .bool r4 ∧ wx = w1)
  case first =>
    by_cases x0 : a < 0
    · have HQ := Lib.hid (show r4 = true by rw [H4.out]; simp [x0])
      go_wp2_with fail
      go_meet
      exact ⟨by rw [HQ.out], rfl⟩
    by_cases x1 : 7 < a
    · have HQ := Lib.hid (show r4 = true by rw [H4.out]; simp [x1])
      go_wp2_with fail
      go_meet
      exact ⟨by rw [HQ.out], rfl⟩
    by_cases x2 : b < 0
    · have HQ := Lib.hid (show r4 = true by rw [H4.out]; simp [x2])
      go_wp2_with fail
      go_meet
      exact ⟨by rw [HQ.out], rfl⟩
    by_cases x3 : 7 < b
    · have HQ := Lib.hid (show r4 = true by rw [H4.out]; simp [x3])
      go_wp2_with fail
      go_meet
      exact ⟨by rw [HQ.out], rfl⟩
    by_cases x4 : c < 0
    · have HQ := Lib.hid (show r4 = true by rw [H4.out]; simp [x4])
      go_wp2_with fail
      go_meet
      exact ⟨by rw [HQ.out], rfl⟩
    by_cases x5 : 7 < c
    · have HQ := Lib.hid (show r4 = true by rw [H4.out]; simp [x5])
      go_wp2_with fail
      go_meet
      exact ⟨by rw [HQ.out], rfl⟩
    by_cases x6 : d < 0
    · have HQ := Lib.hid (show r4 = true by rw [H4.out]; simp [x6])
      go_wp2_with fail
      go_meet
      exact ⟨by rw [HQ.out], rfl⟩
    by_cases x7 : 2 < d
    · have HQ := Lib.hid (show r4 = true by rw [H4.out]; simp [x7])
      go_wp2_with fail
      go_meet
      exact ⟨by rw [HQ.out], rfl⟩
    have HQ := Lib.hid (show r4 = false by rw [H4.out]; simp; omega)
    go_wp2_with fail
    go_meet
    exact ⟨by rw [HQ.out], rfl⟩
  case rest =>
    obtain ⟨rfl, rfl⟩ := hcut
    rcases bTf r4 with rfl | rfl
    · have HQ := Lib.hid (show R = 5 by rw [HR2.out, if_pos rfl])
      go_wp2_with fail
      go_ret
      exact ⟨by rw [HQ.out]; rfl, hB1⟩
    · go_upto_region 6 with fail
      go_cut [100] (fun u wx => u = .bool r6 ∧ wx = wc)
      case first =>
        go_wp2_with fail
        refine (mA _).mono ?_
        rintro e w2 ⟨rfl, rfl⟩
        go_wp2_with fail
        refine (mB _).mono ?_
        rintro e w2 ⟨rfl, rfl⟩
        go_wp2_with fail
        refine (mC _).mono ?_
        rintro e w2 ⟨rfl, rfl⟩
        go_wp2_with fail
        refine (mD _).mono ?_
        rintro e w2 ⟨rfl, rfl⟩
        cases dD
        · rcases bTf (d == 0) with yd | yd
          · have ydn : (d != 0) = false := by rw [bne, yd]; rfl
            go_wp2_with fail
            refine (mK _).mono ?_
            rintro e w2 ⟨rfl, rfl⟩
            cases kK
            · rcases bTf ((k : Int) == 0) with yk | yk
              · have ykn : ((k : Int) != 0) = false := by rw [bne, yk]; rfl
                have HQ := Lib.hid (show r6 = false by rw [H6.out]; simp [yd, yk])
                go_wp2_with fail
                go_meet
                exact ⟨by rw [HQ.out], rfl⟩
              · have ykn : ((k : Int) != 0) = true := by rw [bne, yk]; rfl
                have HQ := Lib.hid (show r6 = true by rw [H6.out]; simp [yd, yk])
                go_wp2_with fail
                go_meet
                exact ⟨by rw [HQ.out], rfl⟩
            · have HQ := Lib.hid (show r6 = false by rw [H6.out]; simp [yd])
              go_wp2_with fail
              go_meet
              exact ⟨by rw [HQ.out], rfl⟩
          · have ydn : (d != 0) = true := by rw [bne, yd]; rfl
            have HQ := Lib.hid (show r6 = true by rw [H6.out]; simp [yd])
            go_wp2_with fail
            go_meet
            exact ⟨by rw [HQ.out], rfl⟩
        · go_wp2_with fail
          refine (mK _).mono ?_
          rintro e w2 ⟨rfl, rfl⟩
          cases kK
          · rcases bTf ((k : Int) == 0) with yk | yk
            · have ykn : ((k : Int) != 0) = false := by rw [bne, yk]; rfl
              have HQ := Lib.hid (show r6 = false by rw [H6.out]; simp [yk])
              go_wp2_with fail
              go_meet
              exact ⟨by rw [HQ.out], rfl⟩
            · have ykn : ((k : Int) != 0) = true := by rw [bne, yk]; rfl
              have HQ := Lib.hid (show r6 = true by rw [H6.out]; simp [yk])
              go_wp2_with fail
              go_meet
              exact ⟨by rw [HQ.out], rfl⟩
          · have HQ := Lib.hid (show r6 = false by rw [H6.out]; simp [])
            go_wp2_with fail
            go_meet
            exact ⟨by rw [HQ.out], rfl⟩
      case rest =>
        obtain ⟨rfl, rfl⟩ := hcut
        rcases bTf r6 with rfl | rfl
        · have HQ := Lib.hid (show R = 5 by rw [HR2.out]; rfl)
          go_wp2_with fail
          go_ret
          exact ⟨by rw [HQ.out]; rfl, hB1⟩
        · go_upto_region 8 with fail
          go_cut [112] (fun u wx => u = .bool r8 ∧ wx = wc)
          case first =>
            go_wp2_with fail
            refine (mD _).mono ?_
            rintro e w2 ⟨rfl, rfl⟩
            cases dD
            · have HQ := Lib.hid (show r8 = false by rw [H8.out]; simp [])
              go_wp2_with fail
              go_meet
              exact ⟨by rw [HQ.out], rfl⟩
            · rcases bTf (d == 2) with y1 | y1
              · have y1n : (d != 2) = false := by rw [bne, y1]; rfl
                have HQ := Lib.hid (show r8 = false by rw [H8.out]; simp [y1])
                go_wp2_with fail
                go_meet
                exact ⟨by rw [HQ.out], rfl⟩
              · have y1n : (d != 2) = true := by rw [bne, y1]; rfl
                rcases bTf (c == 0) with y2 | y2
                · have y2n : (c != 0) = false := by rw [bne, y2]; rfl
                  have HQ := Lib.hid (show r8 = false by rw [H8.out]; simp [y1, y2])
                  go_wp2_with fail
                  go_meet
                  exact ⟨by rw [HQ.out], rfl⟩
                · have y2n : (c != 0) = true := by rw [bne, y2]; rfl
                  have HQ := Lib.hid (show r8 = true by rw [H8.out]; simp [y1, y2])
                  go_wp2_with fail
                  go_meet
                  exact ⟨by rw [HQ.out], rfl⟩
          case rest =>
            obtain ⟨rfl, rfl⟩ := hcut
            rcases bTf r8 with rfl | rfl
            · have HQ := Lib.hid (show R = 5 by rw [HR2.out]; rfl)
              go_wp2_with fail
              go_ret
              exact ⟨by rw [HQ.out]; rfl, hB1⟩
            · go_upto_region 10 with fail
              go_cut [140] (fun u wx => u = .bool r10 ∧ wx = wc)
              case first =>
                by_cases o20 : o = 20
                · have n20 : (o == 20) = true := by rw [o20]; rfl
                  have n21 : (o == 21) = false := by rw [o20]; rfl
                  have n22 : (o == 22) = false := by rw [o20]; rfl
                  by_cases z1 : (k : Int) < 1
                  · have HQ := Lib.hid (show r10 = true by rw [H10.out]; simp; omega)
                    clear o20
                    go_wp2_with fail
                    go_meet
                    exact ⟨by rw [HQ.out], rfl⟩
                  · by_cases z2 : 1000 < (k : Int)
                    · have HQ := Lib.hid (show r10 = true by rw [H10.out]; simp; omega)
                      clear o20
                      go_wp2_with fail
                      go_meet
                      exact ⟨by rw [HQ.out], rfl⟩
                    · have HQ := Lib.hid (show r10 = false by rw [H10.out]; simp; omega)
                      clear o20
                      go_wp2_with fail
                      go_meet
                      exact ⟨by rw [HQ.out], rfl⟩
                · have n20 : (o == 20) = false := by rw [beq_eq_false_iff_ne]; exact o20
                  by_cases o21 : o = 21
                  · have n21 : (o == 21) = true := by rw [o21]; rfl
                    by_cases z3 : 15 < (k : Int)
                    · have HQ := Lib.hid (show r10 = true by rw [H10.out]; simp; omega)
                      clear o21 o20
                      go_wp2_with fail
                      go_meet
                      exact ⟨by rw [HQ.out], rfl⟩
                    · have HQ := Lib.hid (show r10 = false by rw [H10.out]; simp; omega)
                      clear o21 o20
                      go_wp2_with fail
                      go_meet
                      exact ⟨by rw [HQ.out], rfl⟩
                  · have n21 : (o == 21) = false := by rw [beq_eq_false_iff_ne]; exact o21
                    by_cases o22 : o = 22
                    · have n22 : (o == 22) = true := by rw [o22]; rfl
                      by_cases z3 : 15 < (k : Int)
                      · have HQ := Lib.hid (show r10 = true by rw [H10.out]; simp; omega)
                        clear o22 o21 o20
                        go_wp2_with fail
                        go_meet
                        exact ⟨by rw [HQ.out], rfl⟩
                      · have HQ := Lib.hid (show r10 = false by rw [H10.out]; simp; omega)
                        clear o22 o21 o20
                        go_wp2_with fail
                        go_meet
                        exact ⟨by rw [HQ.out], rfl⟩
                    · have n22 : (o == 22) = false := by rw [beq_eq_false_iff_ne]; exact o22
                      have HQ := Lib.hid (show r10 = false by rw [H10.out]; simp; omega)
                      go_wp2_with fail
                      go_meet
                      exact ⟨by rw [HQ.out], rfl⟩
              case rest =>
                obtain ⟨rfl, rfl⟩ := hcut
                cases r10
                · have HQ := Lib.hid (show R = 0 by rw [HR2.out]; rfl)
                  go_wp2_with fail
                  go_ret
                  exact ⟨by rw [HQ.out]; rfl, hB1⟩
                · have HQ := Lib.hid (show R = 5 by rw [HR2.out]; rfl)
                  go_wp2_with fail
                  go_ret
                  exact ⟨by rw [HQ.out]; rfl, hB1⟩
set_option maxHeartbeats 16000000 in
theorem rform_ttf (i : Ins) (hi : i.Wf) (qA : uA i.o = true) (qB : uB i.o = true) (qC : uC i.o = false) (w : World) : Calls Tryd.prog 11 #[i.val] w fun x w' => x = .returned (.int .i64 i.chk) ∧ Below w.heap.size w w' := by
  obtain ⟨r4, h4⟩ : ∃ r : Bool, r = decide (i.a < 0 ∨ 7 < i.a ∨ i.b < 0 ∨ 7 < i.b ∨ i.c < 0 ∨ 7 < i.c ∨ i.d < 0 ∨ 2 < i.d) := ⟨_, rfl⟩
  obtain ⟨r6, h6⟩ : ∃ r : Bool, r = ((!uA i.o && !(i.a == 0)) || ((!uB i.o && !(i.b == 0)) || ((!uC i.o && !(i.c == 0)) || ((!uD i.o && !(i.d == 0)) || (!uK i.o && !((i.k : Int) == 0)))))) := ⟨_, rfl⟩
  obtain ⟨r8, h8⟩ : ∃ r : Bool, r = (uD i.o && (!(i.d == 2) && !(i.c == 0))) := ⟨_, rfl⟩
  obtain ⟨r10, h10⟩ : ∃ r : Bool, r = decide ((i.o = 20 ∧ ((i.k : Int) < 1 ∨ 1000 < (i.k : Int))) ∨ ((i.o = 21 ∨ i.o = 22) ∧ 15 < (i.k : Int))) := ⟨_, rfl⟩
  have hR := chk_ref i r4 r6 r8 r10 h4 h6 h8 h10
  have hhas := fun x => rhas_any i.o x
  obtain ⟨e1, e2, e3, e4, e5⟩ := hs_in i.o
  have hz := hs_size i.o
  have mA := fun x => rin_any (hs i.o) 65 (by omega) x
  have mB := fun x => rin_any (hs i.o) 66 (by omega) x
  have mC := fun x => rin_any (hs i.o) 67 (by omega) x
  have mD := fun x => rin_any (hs i.o) 68 (by omega) x
  have mK := fun x => rin_any (hs i.o) 75 (by omega) x
  rw [e1] at mA
  rw [e2] at mB
  rw [e3] at mC
  rw [e4] at mD
  rw [e5] at mK
  clear e1 e2 e3 e4 e5 hz
  have bk := hi.k
  clear hi
  obtain ⟨R, hRR⟩ : ∃ R, R = i.chk := ⟨_, rfl⟩
  rw [← hRR] at hR ⊢
  clear hRR
  obtain ⟨o, a, b, c, d, k⟩ := i
  unfold Ins.val
  simp only at h4 h6 h8 h10 hR hhas mA mB mC mD mK bk qA qB qC ⊢
  generalize hs o = H at hhas mA mB mC mD mK
  generalize uA o = hA at h6 mA qA
  generalize uB o = hB at h6 mB qB
  subst qA qB
  generalize uC o = cC at h6 h8 mC qC
  subst qC
  generalize uD o = dD at h6 h8 mD
  generalize uK o = kK at h6 h8 mK
  have H4 := Lib.hid h4
  have H6 := Lib.hid h6
  have H8 := Lib.hid h8
  have H10 := Lib.hid h10
  have HR := Lib.hid hR
  clear h4 h6 h8 h10 hR
  have mA : ∀ x, Calls Tryd.prog 28 #[.string H, .int .u8 65] x fun e w' => e = .returned (.bool true) ∧ x = w' := mA
  have mB : ∀ x, Calls Tryd.prog 28 #[.string H, .int .u8 66] x fun e w' => e = .returned (.bool true) ∧ x = w' := mB
  have mC : ∀ x, Calls Tryd.prog 28 #[.string H, .int .u8 67] x fun e w' => e = .returned (.bool false) ∧ x = w' := mC
  have mD : ∀ x, Calls Tryd.prog 28 #[.string H, .int .u8 68] x fun e w' => e = .returned (.bool dD) ∧ x = w' := mD
  have mK : ∀ x, Calls Tryd.prog 28 #[.string H, .int .u8 75] x fun e w' => e = .returned (.bool kK) ∧ x = w' := mK
  have hO : (w.alloc (.cells #[.int .i64 o, .int .i64 a, .int .i64 b, .int .i64 c, .int .i64 d, .int .u32 k] 24)).heap[w.heap.size]? = some (.cells (Ins.cells ⟨o, a, b, c, d, k⟩).toArray 24 (0, 0)) := heap_alloc_new w _
  have hB1 := (Below.refl w.heap.size w).alloc (Nat.le_refl _) (.cells #[.int .i64 o, .int .i64 a, .int .i64 b, .int .i64 c, .int .i64 d, .int .u32 k] 24)
  go_enter Tryd.func11, Tryd.ntmps11
  go_upto_region 1 with fail
  generalize w.alloc (.cells #[.int .i64 o, .int .i64 a, .int .i64 b, .int .i64 c, .int .i64 d, .int .u32 k] 24) = w1 at hO hB1 ⊢
  obtain ⟨p, hp⟩ : ∃ p, p = w.heap.size := ⟨_, rfl⟩
  rw [← hp] at hO ⊢
  clear hp
  obtain ⟨c0, c1, c2, c3, c4, c5⟩ := ins_cells hO
  simp only at c0 c1 c2 c3 c4 c5
  by_cases k1 : o < 1
  · have HQ := Lib.hid (show R = 14 by rw [HR.out, if_neg (by simp [isI]; omega)])
    go_wp2_with fail
    go_ret
    exact ⟨by rw [HQ.out]; rfl, hB1⟩
  by_cases k2 : 38 < o
  · have HQ := Lib.hid (show R = 14 by rw [HR.out, if_neg (by simp [isI]; omega)])
    go_wp2_with fail
    go_ret
    exact ⟨by rw [HQ.out]; rfl, hB1⟩
  have HR2 := Lib.hid (show R = if r4 = true then 5 else if r6 = true then 5 else if r8 = true then 5 else if r10 = true then 5 else 0 by rw [HR.out, if_pos (by simp [isI]; omega)])
  clear HR
  go_wp2_with fail
  refine (hhas _).mono ?_
  rintro e w2 ⟨rfl, rfl⟩
  clear k1 k2
  go_upto_region 4 with fail
  go_cut [52] (fun u wx => u = .bool r4 ∧ wx = w1)
  case first =>
    by_cases x0 : a < 0
    · have HQ := Lib.hid (show r4 = true by rw [H4.out]; simp [x0])
      go_wp2_with fail
      go_meet
      exact ⟨by rw [HQ.out], rfl⟩
    by_cases x1 : 7 < a
    · have HQ := Lib.hid (show r4 = true by rw [H4.out]; simp [x1])
      go_wp2_with fail
      go_meet
      exact ⟨by rw [HQ.out], rfl⟩
    by_cases x2 : b < 0
    · have HQ := Lib.hid (show r4 = true by rw [H4.out]; simp [x2])
      go_wp2_with fail
      go_meet
      exact ⟨by rw [HQ.out], rfl⟩
    by_cases x3 : 7 < b
    · have HQ := Lib.hid (show r4 = true by rw [H4.out]; simp [x3])
      go_wp2_with fail
      go_meet
      exact ⟨by rw [HQ.out], rfl⟩
    by_cases x4 : c < 0
    · have HQ := Lib.hid (show r4 = true by rw [H4.out]; simp [x4])
      go_wp2_with fail
      go_meet
      exact ⟨by rw [HQ.out], rfl⟩
    by_cases x5 : 7 < c
    · have HQ := Lib.hid (show r4 = true by rw [H4.out]; simp [x5])
      go_wp2_with fail
      go_meet
      exact ⟨by rw [HQ.out], rfl⟩
    by_cases x6 : d < 0
    · have HQ := Lib.hid (show r4 = true by rw [H4.out]; simp [x6])
      go_wp2_with fail
      go_meet
      exact ⟨by rw [HQ.out], rfl⟩
    by_cases x7 : 2 < d
    · have HQ := Lib.hid (show r4 = true by rw [H4.out]; simp [x7])
      go_wp2_with fail
      go_meet
      exact ⟨by rw [HQ.out], rfl⟩
    have HQ := Lib.hid (show r4 = false by rw [H4.out]; simp; omega)
    go_wp2_with fail
    go_meet
    exact ⟨by rw [HQ.out], rfl⟩
  case rest =>
    obtain ⟨rfl, rfl⟩ := hcut
    rcases bTf r4 with rfl | rfl
    · have HQ := Lib.hid (show R = 5 by rw [HR2.out, if_pos rfl])
      go_wp2_with fail
      go_ret
      exact ⟨by rw [HQ.out]; rfl, hB1⟩
    · go_upto_region 6 with fail
      go_cut [100] (fun u wx => u = .bool r6 ∧ wx = wc)
      case first =>
        go_wp2_with fail
        refine (mA _).mono ?_
        rintro e w2 ⟨rfl, rfl⟩
        go_wp2_with fail
        refine (mB _).mono ?_
        rintro e w2 ⟨rfl, rfl⟩
        go_wp2_with fail
        refine (mC _).mono ?_
        rintro e w2 ⟨rfl, rfl⟩
        rcases bTf (c == 0) with yc | yc
        · have ycn : (c != 0) = false := by rw [bne, yc]; rfl
          go_wp2_with fail
          refine (mD _).mono ?_
          rintro e w2 ⟨rfl, rfl⟩
          cases dD
          · rcases bTf (d == 0) with yd | yd
            · have ydn : (d != 0) = false := by rw [bne, yd]; rfl
              go_wp2_with fail
              refine (mK _).mono ?_
              rintro e w2 ⟨rfl, rfl⟩
              cases kK
              · rcases bTf ((k : Int) == 0) with yk | yk
                · have ykn : ((k : Int) != 0) = false := by rw [bne, yk]; rfl
                  have HQ := Lib.hid (show r6 = false by rw [H6.out]; simp [yc, yd, yk])
                  go_wp2_with fail
                  go_meet
                  exact ⟨by rw [HQ.out], rfl⟩
                · have ykn : ((k : Int) != 0) = true := by rw [bne, yk]; rfl
                  have HQ := Lib.hid (show r6 = true by rw [H6.out]; simp [yc, yd, yk])
                  go_wp2_with fail
                  go_meet
                  exact ⟨by rw [HQ.out], rfl⟩
              · have HQ := Lib.hid (show r6 = false by rw [H6.out]; simp [yc, yd])
                go_wp2_with fail
                go_meet
                exact ⟨by rw [HQ.out], rfl⟩
            · have ydn : (d != 0) = true := by rw [bne, yd]; rfl
              have HQ := Lib.hid (show r6 = true by rw [H6.out]; simp [yc, yd])
              go_wp2_with fail
              go_meet
              exact ⟨by rw [HQ.out], rfl⟩
          · go_wp2_with fail
            refine (mK _).mono ?_
            rintro e w2 ⟨rfl, rfl⟩
            cases kK
            · rcases bTf ((k : Int) == 0) with yk | yk
              · have ykn : ((k : Int) != 0) = false := by rw [bne, yk]; rfl
                have HQ := Lib.hid (show r6 = false by rw [H6.out]; simp [yc, yk])
                go_wp2_with fail
                go_meet
                exact ⟨by rw [HQ.out], rfl⟩
              · have ykn : ((k : Int) != 0) = true := by rw [bne, yk]; rfl
                have HQ := Lib.hid (show r6 = true by rw [H6.out]; simp [yc, yk])
                go_wp2_with fail
                go_meet
                exact ⟨by rw [HQ.out], rfl⟩
            · have HQ := Lib.hid (show r6 = false by rw [H6.out]; simp [yc])
              go_wp2_with fail
              go_meet
              exact ⟨by rw [HQ.out], rfl⟩
        · have ycn : (c != 0) = true := by rw [bne, yc]; rfl
          have HQ := Lib.hid (show r6 = true by rw [H6.out]; simp [yc])
          go_wp2_with fail
          go_meet
          exact ⟨by rw [HQ.out], rfl⟩
      case rest =>
        obtain ⟨rfl, rfl⟩ := hcut
        rcases bTf r6 with rfl | rfl
        · have HQ := Lib.hid (show R = 5 by rw [HR2.out]; rfl)
          go_wp2_with fail
          go_ret
          exact ⟨by rw [HQ.out]; rfl, hB1⟩
        · go_upto_region 8 with fail
          go_cut [112] (fun u wx => u = .bool r8 ∧ wx = wc)
          case first =>
            go_wp2_with fail
            refine (mD _).mono ?_
            rintro e w2 ⟨rfl, rfl⟩
            cases dD
            · have HQ := Lib.hid (show r8 = false by rw [H8.out]; simp [])
              go_wp2_with fail
              go_meet
              exact ⟨by rw [HQ.out], rfl⟩
            · rcases bTf (d == 2) with y1 | y1
              · have y1n : (d != 2) = false := by rw [bne, y1]; rfl
                have HQ := Lib.hid (show r8 = false by rw [H8.out]; simp [y1])
                go_wp2_with fail
                go_meet
                exact ⟨by rw [HQ.out], rfl⟩
              · have y1n : (d != 2) = true := by rw [bne, y1]; rfl
                rcases bTf (c == 0) with y2 | y2
                · have y2n : (c != 0) = false := by rw [bne, y2]; rfl
                  have HQ := Lib.hid (show r8 = false by rw [H8.out]; simp [y1, y2])
                  go_wp2_with fail
                  go_meet
                  exact ⟨by rw [HQ.out], rfl⟩
                · have y2n : (c != 0) = true := by rw [bne, y2]; rfl
                  have HQ := Lib.hid (show r8 = true by rw [H8.out]; simp [y1, y2])
                  go_wp2_with fail
                  go_meet
                  exact ⟨by rw [HQ.out], rfl⟩
          case rest =>
            obtain ⟨rfl, rfl⟩ := hcut
            rcases bTf r8 with rfl | rfl
            · have HQ := Lib.hid (show R = 5 by rw [HR2.out]; rfl)
              go_wp2_with fail
              go_ret
              exact ⟨by rw [HQ.out]; rfl, hB1⟩
            · go_upto_region 10 with fail
              go_cut [140] (fun u wx => u = .bool r10 ∧ wx = wc)
              case first =>
                by_cases o20 : o = 20
                · have n20 : (o == 20) = true := by rw [o20]; rfl
                  have n21 : (o == 21) = false := by rw [o20]; rfl
                  have n22 : (o == 22) = false := by rw [o20]; rfl
                  by_cases z1 : (k : Int) < 1
                  · have HQ := Lib.hid (show r10 = true by rw [H10.out]; simp; omega)
                    clear o20
                    go_wp2_with fail
                    go_meet
                    exact ⟨by rw [HQ.out], rfl⟩
                  · by_cases z2 : 1000 < (k : Int)
                    · have HQ := Lib.hid (show r10 = true by rw [H10.out]; simp; omega)
                      clear o20
                      go_wp2_with fail
                      go_meet
                      exact ⟨by rw [HQ.out], rfl⟩
                    · have HQ := Lib.hid (show r10 = false by rw [H10.out]; simp; omega)
                      clear o20
                      go_wp2_with fail
                      go_meet
                      exact ⟨by rw [HQ.out], rfl⟩
                · have n20 : (o == 20) = false := by rw [beq_eq_false_iff_ne]; exact o20
                  by_cases o21 : o = 21
                  · have n21 : (o == 21) = true := by rw [o21]; rfl
                    by_cases z3 : 15 < (k : Int)
                    · have HQ := Lib.hid (show r10 = true by rw [H10.out]; simp; omega)
                      clear o21 o20
                      go_wp2_with fail
                      go_meet
                      exact ⟨by rw [HQ.out], rfl⟩
                    · have HQ := Lib.hid (show r10 = false by rw [H10.out]; simp; omega)
                      clear o21 o20
                      go_wp2_with fail
                      go_meet
                      exact ⟨by rw [HQ.out], rfl⟩
                  · have n21 : (o == 21) = false := by rw [beq_eq_false_iff_ne]; exact o21
                    by_cases o22 : o = 22
                    · have n22 : (o == 22) = true := by rw [o22]; rfl
                      by_cases z3 : 15 < (k : Int)
                      · have HQ := Lib.hid (show r10 = true by rw [H10.out]; simp; omega)
                        clear o22 o21 o20
                        go_wp2_with fail
                        go_meet
                        exact ⟨by rw [HQ.out], rfl⟩
                      · have HQ := Lib.hid (show r10 = false by rw [H10.out]; simp; omega)
                        clear o22 o21 o20
                        go_wp2_with fail
                        go_meet
                        exact ⟨by rw [HQ.out], rfl⟩
                    · have n22 : (o == 22) = false := by rw [beq_eq_false_iff_ne]; exact o22
                      have HQ := Lib.hid (show r10 = false by rw [H10.out]; simp; omega)
                      go_wp2_with fail
                      go_meet
                      exact ⟨by rw [HQ.out], rfl⟩
              case rest =>
                obtain ⟨rfl, rfl⟩ := hcut
                cases r10
                · have HQ := Lib.hid (show R = 0 by rw [HR2.out]; rfl)
                  go_wp2_with fail
                  go_ret
                  exact ⟨by rw [HQ.out]; rfl, hB1⟩
                · have HQ := Lib.hid (show R = 5 by rw [HR2.out]; rfl)
                  go_wp2_with fail
                  go_ret
                  exact ⟨by rw [HQ.out]; rfl, hB1⟩
end Go.Proofs.YtghfkpddkmaflaaDoor
