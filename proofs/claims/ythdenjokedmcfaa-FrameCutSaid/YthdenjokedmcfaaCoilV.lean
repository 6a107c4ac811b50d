/- Contract of the reference of layer 6: Print. No condition but those that it names. -/
import Derived.Test.YthdenjokedmcfaaCoilQ
import Derived.Test.YthdenjokedmcfaaCoilB
namespace Go.Proofs.Ythdenjokedmcfaa
open Go.RowKit
set_option maxRecDepth 20000
set_option maxHeartbeats 8000000 in
theorem rprn_any (w : World) (oa : Option Addr) (len cap : Nat) (z : Nat → Ev) (hsl : SlArgN w oa len cap 6 (fun i j => (z i).f j)) (hz : ∀ i, i < len → (z i).Wf) (hlen : len ≤ 100000) :
    Calls Try.prog 42 #[.slice oa len cap] w fun x w' => x = .returned (.tuple #[.string ⟨(prnS z len).toArray⟩, .int .i64 (prnE z len)]) ∧ Below w.heap.size w w' := by
  have HZ := Lib.hid hz
  clear hz
  go_enter Try.func42, Try.ntmps42
  go_wp2_with fail
  go_loopw [4, 5] (fun y x wr => ∃ i : Nat, y = .string ⟨(prnC z i).toArray⟩ ∧ x = .int .i64 i ∧ i ≤ len ∧ prnE z i = 0 ∧ Below w.heap.size w wr) (fun _ x _ => len - (intOf x).toNat)
  case atStart => exact ⟨0, rfl, rfl, Nat.zero_le _, rfl, Below.refl _ _⟩
  case round =>
    obtain ⟨i, rfl, rfl, hi, he, hB⟩ := hrel
    have HE := Lib.hid he
    clear he
    by_cases hlt : i < len
    · obtain ⟨g, off, rfl, hg, a0, a1, a2, a3, a4, a5⟩ := six hsl hB (Nat.le_refl _) hlt
      have hlt' : (i : Int) < len := by omega
      obtain ⟨e, hE⟩ : ∃ e, e = z i := ⟨_, rfl⟩
      rw [← hE] at a0 a1 a2 a3 a4 a5
      have hEw : e.Wf := hE ▸ HZ.out i hlt
      have HEE := Lib.hid hE
      clear hE
      have hck := fun x => rcheck_any e x
      have HW := Lib.hid hEw
      clear hEw
      obtain ⟨k, cy, ct, a, b, v⟩ := e
      simp only [Ev.val] at a0 a1 a2 a3 a4 a5 hck
      go_wp2_with fail
      refine (hck _).mono ?_
      rintro x w2 ⟨rfl, hk⟩
      have hB3 := hB.trans (hk.mono hB.size)
      clear hk hB hck a0 a1 a2 a3 a4 a5
      by_cases hc : (Ev.mk k cy ct a b v).chk = 0
      · rw [hc]
        obtain ⟨g9, off9, hgo, hg9, a0, a1, a2, a3, a4, a5⟩ := six hsl hB3 (Nat.le_refl _) hlt
        cases hgo
        rw [← HEE.out] at a0 a1 a2 a3 a4 a5
        simp only at a0 a1 a2 a3 a4 a5
        obtain ⟨pe, hP⟩ : ∃ pe, pe = z (i - 1) := ⟨_, rfl⟩
        have hst := fun x => rsteps_any pe ⟨k, cy, ct, a, b, v⟩ (hP ▸ HZ.out (i - 1) (by omega)) HW.out x
        have hev : evErr (z (i - 1)) (z i) = if (Stp pe ⟨k, cy, ct, a, b, v⟩).2.2 = true then 0 else 5 := by rw [← HEE.out, ← hP]; unfold evErr; rw [if_pos hc]
        have HK := Lib.hid (chk_ok hc).1
        simp only at HK
        have HPE := Lib.hid hP
        clear hc
        obtain ⟨k', cy', ct', a', b', v'⟩ := pe
        simp only [Ev.val] at hst
        have hx := hB3.size
        have hd0 : ((0 : Int) != 0) = false := rfl
        rcases Nat.eq_zero_or_pos i with hi0 | hi0
        · have hpq : (⟨k, cy, ct, a, b, v⟩ : Ev) = ⟨k', cy', ct', a', b', v'⟩ := by rw [HEE.out, HPE.out, hi0]
          simp only [Ev.mk.injEq] at hpq
          obtain ⟨e1, e2, e3, e4, e5, e6⟩ := hpq
          subst e1 e2 e3 e4 e5 e6
          have hi1 : (i : Int) ≤ 0 := by omega
          have HI := Lib.hid hi0
          clear hi0 hP
          have hO : (w2.alloc (.cells #[.int .i64 k, .int .u64 cy, .int .u64 ct, .int .u32 a, .int .u32 b, .int .u32 v] 85)).heap[w2.heap.size]? = some (.cells (Ev.cells ⟨k, cy, ct, a, b, v⟩).toArray 85 (0, 0)) := heap_alloc_new w2 _
          have hB4 := hB3.alloc hx (.cells #[.int .i64 k, .int .u64 cy, .int .u64 ct, .int .u32 a, .int .u32 b, .int .u32 v] 85)
          go_wp2_with fail
          obtain ⟨g9, off9, hgo, hg9, a0, a1, a2, a3, a4, a5⟩ := six hsl hB4 (Nat.le_refl _) hlt
          cases hgo
          rw [← HEE.out] at a0 a1 a2 a3 a4 a5
          simp only at a0 a1 a2 a3 a4 a5
          generalize w2.alloc (.cells #[.int .i64 k, .int .u64 cy, .int .u64 ct, .int .u32 a, .int .u32 b, .int .u32 v] 85) = W at hO hB4 a0 a1 a2 a3 a4 a5 ⊢
          generalize w2.heap.size = o at hO hx ⊢
          have hoz := blk_lt hO
          have hWz := hB4.size
          obtain ⟨d0, d1, d2, d3, d4, d5⟩ := ev_cells hO
          simp only at d0 d1 d2 d3 d4 d5
          clear hO
          have H := And.intro a0 (And.intro a1 (And.intro a2 (And.intro a3 (And.intro a4 (And.intro a5 (And.intro d0 (And.intro d1 (And.intro d2 (And.intro d3 (And.intro d4 d5))))))))))
          clear a0 a1 a2 a3 a4 a5 d0 d1 d2 d3 d4 d5
          go_region_held3 (fun w' => w'.cell? ⟨g, off + i * 6, none⟩ = some (.int .i64 k) ∧ w'.cell? ⟨g, off + i * 6 + 1, none⟩ = some (.int .u64 cy) ∧ w'.cell? ⟨g, off + i * 6 + 2, none⟩ = some (.int .u64 ct) ∧ w'.cell? ⟨g, off + i * 6 + 3, none⟩ = some (.int .u32 a) ∧ w'.cell? ⟨g, off + i * 6 + 4, none⟩ = some (.int .u32 b) ∧ w'.cell? ⟨g, off + i * 6 + 5, none⟩ = some (.int .u32 v) ∧ w'.cell? ⟨o, 0, none⟩ = some (.int .i64 k) ∧ w'.cell? ⟨o, 1, none⟩ = some (.int .u64 cy) ∧ w'.cell? ⟨o, 2, none⟩ = some (.int .u64 ct) ∧ w'.cell? ⟨o, 3, none⟩ = some (.int .u32 a) ∧ w'.cell? ⟨o, 4, none⟩ = some (.int .u32 b) ∧ w'.cell? ⟨o, 5, none⟩ = some (.int .u32 v)) (first | exact H | exact H2) (first | (go_at_call 68; (refine (hst _).mono ?_); rintro x w9 ⟨s, f, rfl, hsf, hk9⟩; have H2 : w9.cell? ⟨g, off + i * 6, none⟩ = some (.int .i64 k) ∧ w9.cell? ⟨g, off + i * 6 + 1, none⟩ = some (.int .u64 cy) ∧ w9.cell? ⟨g, off + i * 6 + 2, none⟩ = some (.int .u64 ct) ∧ w9.cell? ⟨g, off + i * 6 + 3, none⟩ = some (.int .u32 a) ∧ w9.cell? ⟨g, off + i * 6 + 4, none⟩ = some (.int .u32 b) ∧ w9.cell? ⟨g, off + i * 6 + 5, none⟩ = some (.int .u32 v) ∧ w9.cell? ⟨o, 0, none⟩ = some (.int .i64 k) ∧ w9.cell? ⟨o, 1, none⟩ = some (.int .u64 cy) ∧ w9.cell? ⟨o, 2, none⟩ = some (.int .u64 ct) ∧ w9.cell? ⟨o, 3, none⟩ = some (.int .u32 a) ∧ w9.cell? ⟨o, 4, none⟩ = some (.int .u32 b) ∧ w9.cell? ⟨o, 5, none⟩ = some (.int .u32 v) := twelve hk9 (by omega) hoz H))
          have hB9 : Below w.heap.size w w9 := hB4.trans ((bel_undrew hk9).mono hB4.size)
          clear hk9 H2 H hB4 hst
          obtain ⟨g9, off9, hgo, hg9, a0, a1, a2, a3, a4, a5⟩ := six hsl hB9 (Nat.le_refl _) hlt
          cases hgo
          rw [← HEE.out] at a0 a1 a2 a3 a4 a5
          simp only at a0 a1 a2 a3 a4 a5
          have HEV := Lib.hid hev
          clear hev
          cases hok : (Stp ⟨k, cy, ct, a, b, v⟩ ⟨k, cy, ct, a, b, v⟩).2.2
          · have hR2 : prnE z (i + 1) = 5 := by rw [prnE, if_pos HE.out, HEV.out, hok]; rfl
            have HR3 := Lib.hid (show prnE z len = 5 by rw [prnE_mono z (i := i + 1) (by rw [hR2]; decide) (by omega), hR2])
            clear hR2 hsf
            go_wp2_with fail
            go_ret2
            rw [HR3.out]
            refine ⟨?_, hB9⟩
            rw [show prnS z len = [] from by unfold prnS; rw [HR3.out]; rfl]
            rfl
          · obtain ⟨hs1, hf1⟩ := hsf hok
            have hy := stp_yes hok
            have h64 := HW.out.ct
            simp only at h64
            have hs64 : s < U64 := by rw [hs1]; unfold U64; omega
            have hf64 : f < U64 := by rw [hf1]; exact fold_lt _ (by omega) (by omega)
            have hby : prnC z (i + 1) = prnC z i ++ ([UInt8.ofNat k.toNat] ++ leb 10 s ++ leb 10 f ++ (if hasA k = true then leb 10 a else []) ++ (if hasB k = true then leb 10 b else []) ++ (if hasV k = true then leb 10 v else [])) := by
              rw [prnC, ← HEE.out, ← HPE.out, hs1, hf1]; rfl
            have hon := fun x => rone_any ⟨k, cy, ct, a, b, v⟩ HK.out HW.out s f hs64 hf64 x
            simp only [Ev.val] at hon
            have hR2 : prnE z (i + 1) = 0 := by rw [prnE, if_pos HE.out, HEV.out, hok]; rfl
            have HR2 := Lib.hid hR2
            have hl := prnC_len z (i + 1)
            clear hR2 hs1 hf1 hy h64 hs64 hf64 hok
            rw [hby, List.length_append] at hl
            generalize [UInt8.ofNat k.toNat] ++ leb 10 s ++ leb 10 f ++ (if hasA k = true then leb 10 a else []) ++ (if hasB k = true then leb 10 b else []) ++ (if hasV k = true then leb 10 v else []) = Y at hby hon hl
            have HBY := Lib.hid hby
            clear hby
            have hl2 : (prnC z i).length + Y.length ≤ 51 * 100001 := by omega
            clear hl
            go_wp2_with fail
            refine (hon _).mono ?_
            rintro x w10 ⟨rfl, hk⟩
            have hB10 := hB9.trans (hk.mono hB9.size)
            clear hk a0 a1 a2 a3 a4 a5 hon
            go_wp2_with fail
            go_roundw
            case rel => exact ⟨i + 1, by rw [HBY.out, str_cat], by go_num, by omega, HR2.out, hB10⟩
            case measure => simp [intOf]; omega
        · have hi1 : (0 : Int) < i := by omega
          obtain ⟨g9, off9, hgo, hg9, p0, p1, p2, p3, p4, p5⟩ := six (i := i - 1) hsl (hB3.alloc hx (.cells #[.int .i64 k, .int .u64 cy, .int .u64 ct, .int .u32 a, .int .u32 b, .int .u32 v] 85)) (Nat.le_refl _) (by omega)
          cases hgo
          rw [← HPE.out] at p0 p1 p2 p3 p4 p5
          simp only at p0 p1 p2 p3 p4 p5
          have hl1 : (i : Int) - 1 < len := by omega
          have hnn : ((i : Int) - 1).toNat = i - 1 := by omega
          have hnl : i - 1 < len := by omega
          have hO : (w2.alloc (.cells #[.int .i64 k', .int .u64 cy', .int .u64 ct', .int .u32 a', .int .u32 b', .int .u32 v'] 85)).heap[w2.heap.size]? = some (.cells (Ev.cells ⟨k', cy', ct', a', b', v'⟩).toArray 85 (0, 0)) := heap_alloc_new w2 _
          have hB4 := hB3.alloc hx (.cells #[.int .i64 k', .int .u64 cy', .int .u64 ct', .int .u32 a', .int .u32 b', .int .u32 v'] 85)
          clear hP
          go_wp2_with fail
          obtain ⟨g9, off9, hgo, hg9, a0, a1, a2, a3, a4, a5⟩ := six hsl hB4 (Nat.le_refl _) hlt
          cases hgo
          rw [← HEE.out] at a0 a1 a2 a3 a4 a5
          simp only at a0 a1 a2 a3 a4 a5
          clear p0 p1 p2 p3 p4 p5
          generalize w2.alloc (.cells #[.int .i64 k', .int .u64 cy', .int .u64 ct', .int .u32 a', .int .u32 b', .int .u32 v'] 85) = W at hO hB4 a0 a1 a2 a3 a4 a5 ⊢
          generalize w2.heap.size = o at hO hx ⊢
          have hoz := blk_lt hO
          have hWz := hB4.size
          obtain ⟨d0, d1, d2, d3, d4, d5⟩ := ev_cells hO
          simp only at d0 d1 d2 d3 d4 d5
          clear hO
          have H := And.intro a0 (And.intro a1 (And.intro a2 (And.intro a3 (And.intro a4 (And.intro a5 (And.intro d0 (And.intro d1 (And.intro d2 (And.intro d3 (And.intro d4 d5))))))))))
          clear a0 a1 a2 a3 a4 a5 d0 d1 d2 d3 d4 d5
          go_region_held3 (fun w' => w'.cell? ⟨g, off + i * 6, none⟩ = some (.int .i64 k) ∧ w'.cell? ⟨g, off + i * 6 + 1, none⟩ = some (.int .u64 cy) ∧ w'.cell? ⟨g, off + i * 6 + 2, none⟩ = some (.int .u64 ct) ∧ w'.cell? ⟨g, off + i * 6 + 3, none⟩ = some (.int .u32 a) ∧ w'.cell? ⟨g, off + i * 6 + 4, none⟩ = some (.int .u32 b) ∧ w'.cell? ⟨g, off + i * 6 + 5, none⟩ = some (.int .u32 v) ∧ w'.cell? ⟨o, 0, none⟩ = some (.int .i64 k') ∧ w'.cell? ⟨o, 1, none⟩ = some (.int .u64 cy') ∧ w'.cell? ⟨o, 2, none⟩ = some (.int .u64 ct') ∧ w'.cell? ⟨o, 3, none⟩ = some (.int .u32 a') ∧ w'.cell? ⟨o, 4, none⟩ = some (.int .u32 b') ∧ w'.cell? ⟨o, 5, none⟩ = some (.int .u32 v')) (first | exact H | exact H2) (first | (go_at_call 68; (refine (hst _).mono ?_); rintro x w9 ⟨s, f, rfl, hsf, hk9⟩; have H2 : w9.cell? ⟨g, off + i * 6, none⟩ = some (.int .i64 k) ∧ w9.cell? ⟨g, off + i * 6 + 1, none⟩ = some (.int .u64 cy) ∧ w9.cell? ⟨g, off + i * 6 + 2, none⟩ = some (.int .u64 ct) ∧ w9.cell? ⟨g, off + i * 6 + 3, none⟩ = some (.int .u32 a) ∧ w9.cell? ⟨g, off + i * 6 + 4, none⟩ = some (.int .u32 b) ∧ w9.cell? ⟨g, off + i * 6 + 5, none⟩ = some (.int .u32 v) ∧ w9.cell? ⟨o, 0, none⟩ = some (.int .i64 k') ∧ w9.cell? ⟨o, 1, none⟩ = some (.int .u64 cy') ∧ w9.cell? ⟨o, 2, none⟩ = some (.int .u64 ct') ∧ w9.cell? ⟨o, 3, none⟩ = some (.int .u32 a') ∧ w9.cell? ⟨o, 4, none⟩ = some (.int .u32 b') ∧ w9.cell? ⟨o, 5, none⟩ = some (.int .u32 v') := twelve hk9 (by omega) hoz H))
          have hB9 : Below w.heap.size w w9 := hB4.trans ((bel_undrew hk9).mono hB4.size)
          clear hk9 H2 H hB4 hst
          obtain ⟨g9, off9, hgo, hg9, a0, a1, a2, a3, a4, a5⟩ := six hsl hB9 (Nat.le_refl _) hlt
          cases hgo
          rw [← HEE.out] at a0 a1 a2 a3 a4 a5
          simp only at a0 a1 a2 a3 a4 a5
          have HEV := Lib.hid hev
          clear hev
          cases hok : (Stp ⟨k', cy', ct', a', b', v'⟩ ⟨k, cy, ct, a, b, v⟩).2.2
          · have hR2 : prnE z (i + 1) = 5 := by rw [prnE, if_pos HE.out, HEV.out, hok]; rfl
            have HR3 := Lib.hid (show prnE z len = 5 by rw [prnE_mono z (i := i + 1) (by rw [hR2]; decide) (by omega), hR2])
            clear hR2 hsf
            go_wp2_with fail
            go_ret2
            rw [HR3.out]
            refine ⟨?_, hB9⟩
            rw [show prnS z len = [] from by unfold prnS; rw [HR3.out]; rfl]
            rfl
          · obtain ⟨hs1, hf1⟩ := hsf hok
            have hy := stp_yes hok
            have h64 := HW.out.ct
            simp only at h64
            have hs64 : s < U64 := by rw [hs1]; unfold U64; omega
            have hf64 : f < U64 := by rw [hf1]; exact fold_lt _ (by omega) (by omega)
            have hby : prnC z (i + 1) = prnC z i ++ ([UInt8.ofNat k.toNat] ++ leb 10 s ++ leb 10 f ++ (if hasA k = true then leb 10 a else []) ++ (if hasB k = true then leb 10 b else []) ++ (if hasV k = true then leb 10 v else [])) := by
              rw [prnC, ← HEE.out, ← HPE.out, hs1, hf1]; rfl
            have hon := fun x => rone_any ⟨k, cy, ct, a, b, v⟩ HK.out HW.out s f hs64 hf64 x
            simp only [Ev.val] at hon
            have hR2 : prnE z (i + 1) = 0 := by rw [prnE, if_pos HE.out, HEV.out, hok]; rfl
            have HR2 := Lib.hid hR2
            have hl := prnC_len z (i + 1)
            clear hR2 hs1 hf1 hy h64 hs64 hf64 hok
            rw [hby, List.length_append] at hl
            generalize [UInt8.ofNat k.toNat] ++ leb 10 s ++ leb 10 f ++ (if hasA k = true then leb 10 a else []) ++ (if hasB k = true then leb 10 b else []) ++ (if hasV k = true then leb 10 v else []) = Y at hby hon hl
            have HBY := Lib.hid hby
            clear hby
            have hl2 : (prnC z i).length + Y.length ≤ 51 * 100001 := by omega
            clear hl
            go_wp2_with fail
            refine (hon _).mono ?_
            rintro x w10 ⟨rfl, hk⟩
            have hB10 := hB9.trans (hk.mono hB9.size)
            clear hk a0 a1 a2 a3 a4 a5 hon
            go_wp2_with fail
            go_roundw
            case rel => exact ⟨i + 1, by rw [HBY.out, str_cat], by go_num, by omega, HR2.out, hB10⟩
            case measure => simp [intOf]; omega
      · have hd : ((Ev.mk k cy ct a b v).chk != 0) = true := by simp [hc]
        have hR : evErr (z (i - 1)) (z i) = 3 := by rw [← HEE.out]; unfold evErr; rw [if_neg hc]
        have hR2 : prnE z (i + 1) = 3 := by rw [prnE, if_pos HE.out, hR]
        have HR3 := Lib.hid (show prnE z len = 3 by rw [prnE_mono z (i := i + 1) (by rw [hR2]; decide) (by omega), hR2])
        clear hc hR hR2
        go_wp2_with fail
        go_ret2
        rw [HR3.out]
        refine ⟨?_, hB3⟩
        rw [show prnS z len = [] from by unfold prnS; rw [HR3.out]; rfl]
        rfl
    · obtain rfl : i = len := by omega
      go_wp2_with fail
      go_ret2
      rw [HE.out]
      refine ⟨?_, hB⟩
      rw [show prnS z i = prnC z i from by unfold prnS; rw [HE.out]; rfl]
      rfl
end Go.Proofs.Ythdenjokedmcfaa
