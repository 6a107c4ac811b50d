/- Contracts of isa.Op, isa.Form. No condition but those that each names. -/
import Derived.Test.YtghfkpddkmaflaaDoorIn
import Derived.Test.YtghfkpddkmaflaaDoorLb
import Derived.Deep.DeepCutAuto
namespace Go.Proofs.YtghfkpddkmaflaaDoor
open Go Go.RowKit
set_option linter.unusedVariables false
set_option linter.unusedSimpArgs false
set_option maxRecDepth 20000
set_option maxHeartbeats 1000000 in
theorem iop_any (s : ByteArray) (w : World) : Calls Tryd.prog 34 #[.string s] w fun e w' => e = .returned (.int .i64 (iop s)) ∧ Below w.heap.size w w' := by
  go_enter Tryd.func34, Tryd.ntmps34
  go_wp2_with fail
  go_loopw [3] (fun x wr => ∃ k : Nat, x = .int .i64 k ∧ 1 ≤ k ∧ k ≤ 39 ∧ Hid (iop s = idF s (39 - k) k) ∧ Below w.heap.size w wr) (fun x _ => 39 - (intOf x).toNat)
  case atStart => exact ⟨1, rfl, by omega, by omega, Lib.hid rfl, Below.refl _ _⟩
  case round =>
    obtain ⟨k, rfl, h1, h2, HK, hB⟩ := hrel
    by_cases hlt : k ≤ 38
    · go_wp2_with fail
      refine (iname_any k _).mono ?_
      rintro e w1 ⟨rfl, hb⟩
      have hB1 := hB.trans (hb.mono hB.size)
      clear hb
      by_cases hn : inm k = s
      · have hc := ba_eq hn
        have HN := Lib.hid hn
        clear hn
        go_wp2_with fail
        go_ret
        refine ⟨?_, hB1⟩
        rw [HK.out, show 39 - k = (38 - k) + 1 by omega, idF, if_pos HN.out]
        rfl
      · have hc := ba_ne hn
        have HN := Lib.hid hn
        clear hn
        go_wp2_with fail
        go_roundw
        case rel => exact ⟨k + 1, by go_num, by omega, by omega, Lib.hid (by rw [HK.out, show 39 - k = (38 - k) + 1 by omega, idF, if_neg HN.out, show 39 - (k + 1) = 38 - k by omega]), hB1⟩
        case measure => simp [intOf]; omega
    · go_wp2_with fail
      go_ret
      refine ⟨?_, hB⟩
      rw [HK.out, show 39 - k = 0 by omega]
      rfl
theorem ins_cells {w : World} {b : Nat} {i : Ins} {T : TypeId} {fz : Nat × Nat} (h : w.heap[b]? = some (.cells i.cells.toArray T fz)) :
    w.cell? ⟨b, 0, none⟩ = some (.int .i64 i.o) ∧ w.cell? ⟨b, 1, none⟩ = some (.int .i64 i.a) ∧ w.cell? ⟨b, 2, none⟩ = some (.int .i64 i.b) ∧ w.cell? ⟨b, 3, none⟩ = some (.int .i64 i.c) ∧ w.cell? ⟨b, 4, none⟩ = some (.int .i64 i.d) ∧ w.cell? ⟨b, 5, none⟩ = some (.int .u32 i.k) :=
  ⟨by rw [cell_blk h]; rfl, by rw [cell_blk h]; rfl, by rw [cell_blk h]; rfl, by rw [cell_blk h]; rfl, by rw [cell_blk h]; rfl, by rw [cell_blk h]; rfl⟩
theorem okB_eq (i : Ins) : i.okB = (((rgB i.a (uA i.o) && (rgB i.b (uB i.o) && rgB i.c (uC i.o && (!uD i.o || i.d == 2)))) && (decide (0 ≤ i.d) && (decide (i.d ≤ 2) && ((uD i.o || i.d == 0) && (uK i.o || decide (i.k = 0)))))) && (if i.o = 20 then decide (1 ≤ i.k ∧ i.k ≤ 1000) else if i.o = 21 ∨ i.o = 22 then decide (i.k < 16) else true)) := by
  unfold Ins.okB hC
  have h3 : ∀ x y z z' : Bool, z = z' → (x && (y && z)) = ((x && y) && z') := by decide
  refine h3 _ _ _ _ ?_
  by_cases h20 : i.o = 20
  · have h21 : ¬ (i.o = 21 ∨ i.o = 22) := by omega
    rw [if_pos h20]
    simp only [h20]
    simp
  · rw [if_neg h20]
    by_cases h21 : i.o = 21 ∨ i.o = 22
    · rw [if_pos h21]
      simp [h20, h21]
    · rw [if_neg h21]
      simp [h20, h21]
set_option maxHeartbeats 4000000 in
theorem form_any (i : Ins) (hi : i.Wf) (w : World) : Calls Tryd.prog 20 #[i.val] w fun x w' => x = .returned (.int .i64 i.chk) ∧ Below w.heap.size w w' := by
  have hOK := okB_eq i
  have hu := fun x => iuses_any i.o x
  obtain ⟨o, a, b, c, d, k⟩ := i
  unfold Ins.val Ins.chk
  simp only at hOK hu ⊢
  rw [hOK]
  clear hOK
  have bk : k < 4294967296 := hi.k
  clear hi
  have hO : (w.alloc (.cells #[.int .i64 o, .int .i64 a, .int .i64 b, .int .i64 c, .int .i64 d, .int .u32 k] 24)).heap[w.heap.size]? = some (.cells (Ins.cells ⟨o, a, b, c, d, k⟩).toArray 24 (0, 0)) := heap_alloc_new w _
  have hB1 := (Below.refl w.heap.size w).alloc (Nat.le_refl _) (.cells #[.int .i64 o, .int .i64 a, .int .i64 b, .int .i64 c, .int .i64 d, .int .u32 k] 24)
  have his := fun x => iis_any o x
  cases hk : isI o
  · rw [if_neg (by simp)]
    rw [hk] at his
    clear hk
    go_enter Tryd.func20, Tryd.ntmps20
    go_upto_region 1 with fail
    generalize w.alloc (.cells #[.int .i64 o, .int .i64 a, .int .i64 b, .int .i64 c, .int .i64 d, .int .u32 k] 24) = w1 at hO hB1 ⊢
    generalize w.heap.size = p at hO ⊢
    obtain ⟨c0, c1, c2, c3, c4, c5⟩ := ins_cells hO
    simp only at c0 c1 c2 c3 c4 c5
    go_wp2_with fail
    refine (his _).mono ?_
    rintro e w2 ⟨rfl, rfl⟩
    go_wp2_with fail
    go_ret
    exact ⟨rfl, hB1⟩
  · rw [if_pos rfl]
    rw [hk] at his
    clear hk
    generalize uA o = hA at hu ⊢
    generalize uB o = hB at hu ⊢
    generalize uC o = cC at hu ⊢
    generalize uD o = dD at hu ⊢
    generalize uK o = kK at hu ⊢
    have m1 := fun x => ireg_any a hA x
    have m2 := fun x => ireg_any b hB x
    have m3 := fun x => ireg_any c (cC && (!dD || d == 2)) x
    generalize rgB a hA = r1 at m1 ⊢
    generalize rgB b hB = r2 at m2 ⊢
    generalize rgB c (cC && (!dD || d == 2)) = r3 at m3 ⊢
    have M3 := Lib.hid m3
    clear m3
    obtain ⟨S, hS⟩ : ∃ S : Bool, S = (if o = 20 then decide (1 ≤ k ∧ k ≤ 1000) else if o = 21 ∨ o = 22 then decide (k < 16) else true) := ⟨_, rfl⟩
    rw [← hS]
    obtain ⟨R, hR⟩ : ∃ R : Int, R = if (((r1 && (r2 && r3)) && (decide (0 ≤ d) && (decide (d ≤ 2) && ((dD || d == 0) && (kK || decide (k = 0)))))) && S) = true then 0 else 5 := ⟨_, rfl⟩
    rw [← hR]
    have HS := Lib.hid hS
    have HR := Lib.hid hR
    clear hS hR
    go_enter Tryd.func20, Tryd.ntmps20
    go_upto_region 1 with fail
    generalize w.alloc (.cells #[.int .i64 o, .int .i64 a, .int .i64 b, .int .i64 c, .int .i64 d, .int .u32 k] 24) = w1 at hO hB1 ⊢
    obtain ⟨p, hp⟩ : ∃ p, p = w.heap.size := ⟨_, rfl⟩
    rw [← hp] at hO ⊢
    clear hp
    obtain ⟨c0, c1, c2, c3, c4, c5⟩ := ins_cells hO
    simp only at c0 c1 c2 c3 c4 c5
    go_wp2_with fail
    refine (his _).mono ?_
    rintro e w2 ⟨rfl, rfl⟩
    go_wp2_with fail
    refine (hu _).mono ?_
    rintro e w2 ⟨rfl, rfl⟩
    clear his hu
    go_upto_region 4 with fail
    go_cut [8] (fun u wx => u = .bool (r1 && (r2 && r3)) ∧ wx = w1)
    case first =>
      cases r1
      · go_wp2_with fail
        refine (m1 _).mono ?_
        rintro e w2 ⟨rfl, rfl⟩
        go_wp2_with fail
        go_meet
        exact ⟨rfl, rfl⟩
      · cases r2
        · go_wp2_with fail
          refine (m1 _).mono ?_
          rintro e w2 ⟨rfl, rfl⟩
          go_wp2_with fail
          refine (m2 _).mono ?_
          rintro e w2 ⟨rfl, rfl⟩
          go_wp2_with fail
          go_meet
          exact ⟨rfl, rfl⟩
        · have hd2 : (d == 2) = true ∨ (d == 2) = false := by cases d == 2 <;> simp
          have m3 := M3.out
          cases cC <;> cases dD <;> rcases hd2 with hd2 | hd2
          all_goals
            simp only [hd2, Bool.not_true, Bool.not_false, Bool.or_true, Bool.or_false, Bool.and_true, Bool.and_false, Bool.true_and, Bool.false_and, Bool.or_self, Bool.and_self, Bool.false_or, Bool.true_or] at m3
            go_wp2_with fail
            refine (m1 _).mono ?_
            rintro e w2 ⟨rfl, rfl⟩
            go_wp2_with fail
            refine (m2 _).mono ?_
            rintro e w2 ⟨rfl, rfl⟩
            go_wp2_with fail
            refine (m3 _).mono ?_
            rintro e w2 ⟨rfl, rfl⟩
            go_wp2_with fail
            go_meet
            exact ⟨rfl, rfl⟩
    case rest =>
      obtain ⟨rfl, rfl⟩ := hcut
      clear m1 m2 M3
      obtain ⟨q1, hq1⟩ : ∃ q, q = (r1 && (r2 && r3)) := ⟨_, rfl⟩
      rw [← hq1]
      have HQ1 := Lib.hid hq1
      clear hq1
      go_upto_region 5 with fail
      go_cut [8] (fun u wx => u = .bool (q1 && (decide (0 ≤ d) && (decide (d ≤ 2) && ((dD || d == 0) && (kK || decide (k = 0)))))) ∧ wx = wc)
      case first =>
        have hd0 : (d == 0) = true ∨ (d == 0) = false := by cases d == 0 <;> simp
        cases q1
        · go_wp2_with fail
          go_meet
          exact ⟨rfl, rfl⟩
        · by_cases d0 : 0 ≤ d
          · by_cases d2 : d ≤ 2
            · have hk0 : k = 0 ∨ ¬ k = 0 := by omega
              cases dD
              · rcases hd0 with hd0 | hd0
                · cases kK
                  · rcases hk0 with hk0 | hk0
                    · subst hk0
                      go_wp2_with fail
                      go_meet
                      exact ⟨by simp [d0, d2, hd0], rfl⟩
                    · have hkb : ((k : Int) == 0) = false := by rw [beq_eq_false_iff_ne]; omega
                      go_wp2_with fail
                      go_meet
                      exact ⟨by simp [hk0], rfl⟩
                  · go_wp2_with fail
                    go_meet
                    exact ⟨by simp [d0, d2, hd0], rfl⟩
                · go_wp2_with fail
                  go_meet
                  exact ⟨by simp [hd0], rfl⟩
              · cases kK
                · rcases hk0 with hk0 | hk0
                  · subst hk0
                    go_wp2_with fail
                    go_meet
                    exact ⟨by simp [d0, d2], rfl⟩
                  · have hkb : ((k : Int) == 0) = false := by rw [beq_eq_false_iff_ne]; omega
                    go_wp2_with fail
                    go_meet
                    exact ⟨by simp [hk0], rfl⟩
                · go_wp2_with fail
                  go_meet
                  exact ⟨by simp [d0, d2], rfl⟩
            · go_wp2_with fail
              go_meet
              exact ⟨by simp; intros; omega, rfl⟩
          · go_wp2_with fail
            go_meet
            exact ⟨by simp; intros; omega, rfl⟩
      case rest =>
        obtain ⟨rfl, rfl⟩ := hcut
        obtain ⟨q2, hq2⟩ : ∃ q, q = (q1 && (decide (0 ≤ d) && (decide (d ≤ 2) && ((dD || d == 0) && (kK || decide (k = 0)))))) := ⟨_, rfl⟩
        rw [← hq2]
        have HRQ := Lib.hid (show R = if (q2 && S) = true then 0 else 5 by rw [HR.out, ← HQ1.out, ← hq2])
        clear hq2 HR HQ1
        clear c1 c2 c3 c4
        have fin0 : S = true → q2 = true → Hid (R = 0) := fun h1 h2 => Lib.hid (by rw [HRQ.out, h1, h2]; rfl)
        have fin5 : S = false → Hid (R = 5) := fun h1 => Lib.hid (by rw [HRQ.out, h1, Bool.and_false]; rfl)
        have fin6 : q2 = false → Hid (R = 5) := fun h1 => Lib.hid (by rw [HRQ.out, h1]; rfl)
        have F := Lib.hid (And.intro fin0 (And.intro fin5 fin6))
        clear fin0 fin5 fin6
        by_cases h20 : o = 20
        · subst h20
          cases q2
          · have HF := F.out.2.2 rfl
            go_wp2_with fail
            go_ret
            exact ⟨by rw [HF.out]; rfl, hB1⟩
          · by_cases k1 : 1 ≤ k
            · by_cases k2 : k ≤ 1000
              · have k1I : (1 : Int) ≤ k := by omega
                have k2I : (k : Int) ≤ 1000 := by omega
                have HF := F.out.1 (by rw [HS.out, if_pos rfl]; exact decide_eq_true ⟨k1, k2⟩) rfl
                go_wp2_with fail
                go_ret
                exact ⟨by rw [HF.out]; rfl, hB1⟩
              · have k1I : (1 : Int) ≤ k := by omega
                have k2I : ¬ (k : Int) ≤ 1000 := by omega
                have HF := F.out.2.1 (by rw [HS.out, if_pos rfl]; exact decide_eq_false fun h => k2 h.2)
                go_wp2_with fail
                go_ret
                exact ⟨by rw [HF.out]; rfl, hB1⟩
            · have k1I : ¬ (1 : Int) ≤ k := by omega
              have HF := F.out.2.1 (by rw [HS.out, if_pos rfl]; exact decide_eq_false fun h => k1 h.1)
              go_wp2_with fail
              go_ret
              exact ⟨by rw [HF.out]; rfl, hB1⟩
        · have e20 : (o == 20) = false := by rw [beq_eq_false_iff_ne]; exact h20
          have H20 := Lib.hid h20
          by_cases h21 : o = 21 ∨ o = 22
          · clear h20 e20
            rcases h21 with h21 | h21
            all_goals
              subst h21
              cases q2
              · have HF := F.out.2.2 rfl
                go_wp2_with fail
                go_ret
                exact ⟨by rw [HF.out]; rfl, hB1⟩
              · by_cases k1 : k < 16
                · have k1I : (k : Int) < 16 := by omega
                  have HF := F.out.1 (by rw [HS.out, if_neg (by decide), if_pos (by decide)]; exact decide_eq_true k1) rfl
                  go_wp2_with fail
                  go_ret
                  exact ⟨by rw [HF.out]; rfl, hB1⟩
                · have k1I : ¬ (k : Int) < 16 := by omega
                  have HF := F.out.2.1 (by rw [HS.out, if_neg (by decide), if_pos (by decide)]; exact decide_eq_false k1)
                  go_wp2_with fail
                  go_ret
                  exact ⟨by rw [HF.out]; rfl, hB1⟩
          · have e21 : (o == 21) = false := by rw [beq_eq_false_iff_ne]; omega
            have e22 : (o == 22) = false := by rw [beq_eq_false_iff_ne]; omega
            have hS1 : S = true := by rw [HS.out, if_neg h20, if_neg h21]
            clear h20 h21
            cases q2
            · have HF := F.out.2.2 rfl
              clear hS1
              go_wp2_with fail
              go_ret
              exact ⟨by rw [HF.out]; rfl, hB1⟩
            · have HF := F.out.1 hS1 rfl
              clear hS1
              go_wp2_with fail
              go_ret
              exact ⟨by rw [HF.out]; rfl, hB1⟩
end Go.Proofs.YtghfkpddkmaflaaDoor
