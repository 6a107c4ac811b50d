/- awake of layer 7, and ref07.Same. No condition but those that each names. -/
import Derived.Test.YthdenjokedmcfaaFrS
import Derived.Test.YthdenjokedmcfaaSame
import Derived.Deep.DeepMust
import Derived.Deep.DeepCutAuto
namespace Go.Proofs.Ythdenjokedmcfaa
open Go.RowKit
set_option maxRecDepth 100000
def eA : Ev := ⟨22, 9, 5, 3, 0, 0⟩
theorem fa_1 : frE (fun _ => eA) 1 = 0 := by decide +kernel
theorem fa_2 : (frS 7 (fun _ => eA) 1).length = 63 := by decide +kernel
theorem fa_3 : frR ⟨([120] ++ frS 7 (fun _ => eA) 1 ++ [121]).toArray⟩ 1 = (0, 7, [eA], 64) := by decide +kernel
theorem fa_4 : frR ⟨((frS 7 (fun _ => eA) 1).take 60).toArray⟩ 0 = (2, 0, [], 0) := by decide +kernel
theorem rfsame_any (w : World) (a : Nat) (ha : a < 4294967296) (oa ob : Option Addr) (len cap cap' : Nat) (z : Nat → Ev) (h1 : SlArgN w oa len cap 6 (fun i j => (z i).f j)) (h2 : SlArgN w ob len cap' 6 (fun i j => (z i).f j)) (hlen : len ≤ 1000000) :
    Calls Try.prog 38 #[.agg #[.int .u32 a, .slice oa len cap], .agg #[.int .u32 a, .slice ob len cap']] w fun x w' => x = .returned (.bool true) ∧ Below w.heap.size w w' := by
  have hB0 := ((Below.refl w.heap.size w).alloc (Nat.le_refl _) (.cells #[.int .u32 a, .slice oa len cap] 48)).alloc (by simp) (.cells #[.int .u32 a, .slice ob len cap'] 48)
  have hk : Below w.heap.size w ((w.alloc (.cells #[.int .u32 a, .slice oa len cap] 48)).alloc (.cells #[.int .u32 a, .slice ob len cap'] 48)) := hB0
  have hs := rsame_eq _ _ _ _ _ _ z (h1.kept hk) (h2.kept hk) hlen
  clear h1 h2
  go_enter Try.func38, Try.ntmps38
  go_wp2_with (go_at_call 41; (refine hs.mono ?_); rintro x0 w1 ⟨rfl, n1, rfl⟩)
  go_ret
  exact ⟨rfl, below_drewN hB0 _⟩
theorem eA_wf : eA.Wf := ⟨by decide, by decide, by decide, by decide, by decide, by decide, by decide⟩
theorem f_at' (e : Ev) {j : Nat} (hj : j < 6) : e.cells[j]? = some (e.f j) := by
  match j, hj with
  | 0, _ => rfl
  | 1, _ => rfl
  | 2, _ => rfl
  | 3, _ => rfl
  | 4, _ => rfl
  | 5, _ => rfl
theorem slN_one' (w : World) (a : Ev) : SlArgN (w.alloc (.cells a.cells.toArray 85)) (some ⟨w.heap.size, 0, none⟩) 1 1 6 (fun i j => ((fun _ => a) i).f j) := by
  refine ⟨Nat.le_refl _, by decide, fun i hi => ⟨_, 0, rfl, by simp, fun j hj => ?_⟩⟩
  rw [cell_blk (heap_alloc_new w _)]
  obtain rfl : i = 0 := by omega
  rw [← f_at' a hj]
  simp
set_option maxHeartbeats 4000000 in
theorem awake7 (w : World) : Calls Try.prog 33 #[] w fun e w' => e = .returned (.bool true) ∧ Below w.heap.size w w' := by
  obtain ⟨S, hS⟩ : ∃ S : ByteArray, S = ⟨(frS 7 (fun _ => eA) 1).toArray⟩ := ⟨_, rfl⟩
  have hSs : S.size = 63 := by rw [hS]; exact fa_2
  have hX1 : (⟨#[120]⟩ : ByteArray) ++ S ++ ⟨#[121]⟩ = ⟨([120] ++ frS 7 (fun _ => eA) 1 ++ [121]).toArray⟩ := by
    rw [hS]
    exact (congrArg (fun x => x ++ (⟨#[121]⟩ : ByteArray)) (str_cat [120] (frS 7 (fun _ => eA) 1))).trans (str_cat _ [121])
  have hX2 : S.extract 0 60 = ⟨((frS 7 (fun _ => eA) 1).take 60).toArray⟩ := by
    rw [hS]
    apply ByteArray.ext
    apply Array.toList_inj.1
    rw [ByteArray.data_extract]
    show ((List.toArray _).extract 0 60).toList = _
    rw [Array.toList_extract]
    rfl
  have hr1 := fun x tb (h : IsTab x tb) => fread_any x tb h ((⟨#[120]⟩ : ByteArray) ++ S ++ ⟨#[121]⟩) (by rw [ByteArray.size_append, ByteArray.size_append, hSs]; decide) 1
  have hr2 := fun x tb (h : IsTab x tb) => fread_any x tb h (S.extract 0 60) (by rw [ByteArray.size_extract, hSs]; decide) 0
  have e1 : frR ((⟨#[120]⟩ : ByteArray) ++ S ++ ⟨#[121]⟩) 1 = (0, 7, [eA], 64) := by rw [hX1]; exact fa_3
  have e2 : frR (S.extract 0 60) 0 = (2, 0, [], 0) := by rw [hX2]; exact fa_4
  simp only [e1] at hr1
  simp only [e2] at hr2
  clear e1 e2 hX1 hX2
  have hp1 := fun x tb (h : IsTab x tb) o (hs : SlArgN x (some o) 1 1 6 (fun i j => ((fun _ => eA) i).f j)) => fprint_any x tb h 7 (by decide) (some o) 1 1 (fun _ => eA) hs (fun _ _ => eA_wf) (by decide)
  rw [← hS, fa_1] at hp1
  have hp2 := fun x tb (h : IsTab x tb) => fprint_any x tb h 0 (by decide) none 0 0 (fun _ => eA) ⟨Nat.le_refl _, Nat.zero_le _, fun i hi => absurd hi (Nat.not_lt_zero _)⟩ (fun i hi => absurd hi (Nat.not_lt_zero _)) (by decide)
  have e3 : frS 0 (fun _ => eA) 0 = [] := rfl
  have e4 : frE (fun _ => eA) 0 = 8 := rfl
  rw [e3, e4] at hp2
  clear hS e3 e4
  unfold FrPost at hr1 hr2
  simp only [List.length_singleton, List.length_nil] at hr1 hr2
  go_enter Try.func33, Try.ntmps33
  go_wp2_with fail
  refine (make_any _).mono ?_
  rintro x w1 ⟨rfl, hT, hB1⟩
  obtain ⟨tb, htb⟩ : ∃ tb, tb = w.heap.size := ⟨_, rfl⟩
  rw [← htb] at hT ⊢
  clear htb
  have hs1 := slN_one' w1 eA
  have hk1 := (Below.refl w1.heap.size w1).alloc (Nat.le_refl _) (.cells eA.cells.toArray 85)
  simp only [eA, Ev.cells] at hs1 hk1
  go_wp2_with fail
  have hB2 := (hB1.alloc hB1.size (.cells #[.int .i64 22, .int .u64 9, .int .u64 5, .int .u32 3, .int .u32 0, .int .u32 0] 85)).alloc (hB1.alloc hB1.size (.cells #[.int .i64 22, .int .u64 9, .int .u64 5, .int .u32 3, .int .u32 0, .int .u32 0] 85)).size (.cells #[.int .u32 7, .slice (some ⟨w1.heap.size, 0, none⟩) 1 1] 48)
  have hs2 : SlArgN ((w1.alloc (.cells #[.int .i64 22, .int .u64 9, .int .u64 5, .int .u32 3, .int .u32 0, .int .u32 0] 85)).alloc (.cells #[.int .u32 7, .slice (some ⟨w1.heap.size, 0, none⟩) 1 1] 48)) (some ⟨w1.heap.size, 0, none⟩) 1 1 6 (fun i j => ((fun _ => eA) i).f j) := SlArgN.kept hs1 ((Below.refl _ _).alloc (Nat.le_refl _) _)
  have hT2 : IsTab ((w1.alloc (.cells #[.int .i64 22, .int .u64 9, .int .u64 5, .int .u32 3, .int .u32 0, .int .u32 0] 85)).alloc (.cells #[.int .u32 7, .slice (some ⟨w1.heap.size, 0, none⟩) 1 1] 48)) tb := (hT.kept hk1).kept ((Below.refl _ _).alloc (Nat.le_refl _) _)
  have hf2 : ((w1.alloc (.cells #[.int .i64 22, .int .u64 9, .int .u64 5, .int .u32 3, .int .u32 0, .int .u32 0] 85)).alloc (.cells #[.int .u32 7, .slice (some ⟨w1.heap.size, 0, none⟩) 1 1] 48)).heap[w1.heap.size + 1]? = some (.cells #[.int .u32 7, .slice (some ⟨w1.heap.size, 0, none⟩) 1 1] 48 (0, 0)) := by simpa using heap_alloc_new (w1.alloc (.cells #[.int .i64 22, .int .u64 9, .int .u64 5, .int .u32 3, .int .u32 0, .int .u32 0] 85)) (.cells #[.int .u32 7, .slice (some ⟨w1.heap.size, 0, none⟩) 1 1] 48)
  generalize (w1.alloc (.cells #[.int .i64 22, .int .u64 9, .int .u64 5, .int .u32 3, .int .u32 0, .int .u32 0] 85)).alloc (.cells #[.int .u32 7, .slice (some ⟨w1.heap.size, 0, none⟩) 1 1] 48) = W2 at hB2 hs2 hT2 hf2 ⊢
  obtain ⟨F, hF⟩ : ∃ F, F = w1.heap.size + 1 := ⟨_, rfl⟩
  rw [← hF] at hf2 ⊢
  generalize w1.heap.size = g at hs2 hf2 ⊢
  clear hF hs1 hk1 hT hB1
  refine (hp1 W2 tb hT2 ⟨g, 0, none⟩ hs2).mono ?_
  rintro x w3 ⟨rfl, hk⟩
  have hB3 := hB2.trans (hk.mono hB2.size)
  have hs3 := SlArgN.kept hs2 hk
  have hT3 := hT2.kept hk
  have hf3 := (hk.block F (blk_lt hf2)).trans hf2
  clear hp1 hk hB2 hs2 hT2 hf2
  go_wp2_with fail
  refine (hr1 w3 tb hT3).mono ?_
  rintro x w4 ⟨ao, cap, rfl, hown, hk⟩
  have hB4 := hB3.trans (hk.mono hB3.size)
  have hs4 := SlArgN.kept hs3 hk
  have hT4 := hT3.kept hk
  have hf4 := (hk.block F (blk_lt hf3)).trans hf3
  have hg4 : SlArgN w4 ao 1 cap 6 (fun i j => ((fun _ => eA) i).f j) := (slArgN_own (l := [eA]) hown).congr fun i hi j _ => by
    have hi1 : i < 1 := hi
    obtain rfl : i = 0 := by omega
    rfl
  clear hr1 hk hB3 hs3 hT3 hf3 hown
  have hal := (Below.refl w4.heap.size w4).alloc (Nat.le_refl _) (.cells #[.int .u32 7, .slice ao 1 cap] 48)
  have hB5 := hB4.trans (hal.mono hB4.size)
  have hs5 := SlArgN.kept hs4 hal
  have hT5 := hT4.kept hal
  have hf5 := (hal.block F (blk_lt hf4)).trans hf4
  have hg5 := SlArgN.kept hg4 hal
  have hf6 := heap_alloc_new w4 (.cells #[.int .u32 7, .slice ao 1 cap] 48)
  go_upto_region 5 with fail
  generalize w4.alloc (.cells #[.int .u32 7, .slice ao 1 cap] 48) = W5 at hB5 hs5 hT5 hf5 hg5 hf6 ⊢
  generalize w4.heap.size = G at hf6 ⊢
  clear hal hB4 hs4 hT4 hf4 hg4
  go_wp2_with fail
  refine (hr2 W5 tb hT5).mono ?_
  rintro x w6 ⟨ao2, cap2, rfl, _, hk⟩
  have hB6 := hB5.trans (hk.mono hB5.size)
  have hs6 := SlArgN.kept hs5 hk
  have hT6 := hT5.kept hk
  have hf7 := (hk.block F (blk_lt hf5)).trans hf5
  have hg6 := SlArgN.kept hg5 hk
  have hf8 := (hk.block G (blk_lt hf6)).trans hf6
  clear hr2 hk hB5 hs5 hT5 hf5 hg5 hf6
  have hal := (Below.refl w6.heap.size w6).alloc (Nat.le_refl _) (.cells #[.int .u32 0, .slice ao2 0 cap2] 48)
  have hB7 := hB6.trans (hal.mono hB6.size)
  have hs7 := SlArgN.kept hs6 hal
  have hT7 := hT6.kept hal
  have hf9 := (hal.block F (blk_lt hf7)).trans hf7
  have hg7 := SlArgN.kept hg6 hal
  have hf10 := (hal.block G (blk_lt hf8)).trans hf8
  go_upto_region 6 with fail
  generalize w6.alloc (.cells #[.int .u32 0, .slice ao2 0 cap2] 48) = W7 at hB7 hs7 hT7 hf9 hg7 hf10 ⊢
  generalize w6.heap.size = G2
  clear hal hB6 hs6 hT6 hf7 hg6 hf8
  go_wp2_with fail
  refine (hp2 W7 tb hT7).mono ?_
  rintro x w8 ⟨rfl, hk⟩
  have hB8 := hB7.trans (hk.mono hB7.size)
  have hs8 := SlArgN.kept hs7 hk
  have hf11 := (hk.block F (blk_lt hf9)).trans hf9
  have hg8 := SlArgN.kept hg7 hk
  have hf12 := (hk.block G (blk_lt hf10)).trans hf10
  clear hp2 hk hB7 hs7 hT7 hf9 hg7 hf10
  have hsm := rfsame_any w8 7 (by decide) _ _ 1 _ _ (fun _ => eA) hs8 hg8 (by decide)
  have c0 := cell_blk hf11 0
  have c1 := cell_blk hf11 1
  have d0 := cell_blk hf12 0
  have d1 := cell_blk hf12 1
  simp only [List.getElem?_toArray, List.getElem?_cons_zero, List.getElem?_cons_succ] at c0 c1 d0 d1
  clear hf11 hf12 hs8 hg8
  go_wp2_with (first | (go_at_call 38; (refine hsm.mono ?_); rintro x0 w9 ⟨rfl, hk9⟩; have hB9 := hB8.trans (hk9.mono hB8.size)) | (go_at_call 39; (refine (mk_any _).mono ?_); rintro x0 w10 ⟨rfl, hk10⟩; have hB10 := hB9.trans (hk10.mono hB9.size)) | (go_at_call 46; (refine (rmk_any _).mono ?_); rintro x0 w11 ⟨rfl, n11, rfl⟩))
  go_ret
  exact ⟨rfl, below_drewN hB10 _⟩
end Go.Proofs.Ythdenjokedmcfaa
