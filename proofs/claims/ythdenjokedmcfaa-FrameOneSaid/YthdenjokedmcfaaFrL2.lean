/- The walks of the statements of layer 7: FrameOne. -/
import Derived.Test.YthdenjokedmcfaaFrL1
import Derived.Test.YthdenjokedmcfaaFrX
namespace Go.Proofs.Ythdenjokedmcfaa
open Go.RowKit
set_option maxRecDepth 20000
theorem fRd_err (s : ByteArray) (p : Nat) : (fRd s p).1 ≠ 0 → fRd s p = ((fRd s p).1, 0, [], 0) := by
  unfold fRd
  split
  · intro _; dsimp only
  · split
    · intro _; dsimp only
    · split
      · intro _; dsimp only
      · split
        · intro _; dsimp only
        · split
          · intro _; dsimp only
          · intro h; dsimp only at h; exact absurd rfl h
theorem frR_err (s : ByteArray) (at_ : Int) : (frR s at_).1 ≠ 0 → frR s at_ = ((frR s at_).1, 0, [], 0) := by
  unfold frR
  split
  · intro _; dsimp only
  · exact fRd_err s at_.toNat
theorem frR_spell {s : ByteArray} {at_ : Int} {seq nx : Nat} {l : List Ev} (h : frR s at_ = (0, seq, l, nx)) :
    0 ≤ at_ ∧ at_.toNat ≤ nx ∧ nx ≤ s.size ∧ (∀ i, i < l.length → (l.getD i default).Wf) ∧ frE (fun i => l.getD i default) l.length = 0 ∧ frS seq (fun i => l.getD i default) l.length = (s.extract at_.toNat nx).data.toList := by
  unfold frR at h
  split at h
  · cases h
  · rename_i hat
    exact ⟨by omega, fRd_spell (by omega) h⟩
set_option maxHeartbeats 2000000 in
theorem frameOne_law (s : ByteArray) (at_ : Int) (w : World) (hs : s.size ≤ maxLen) (hat : (Lit.int .i64 at_).wf = true) :
    Calls Try.prog 12 #[.string s, .int .i64 at_] w fun e w' => e = .returned (.bool true) ∧ Below w.heap.size w w' := by
  unfold maxLen at hs
  clear hat
  have hB0 := Below.refl w.heap.size w
  by_cases hl : s.size ≤ 1000
  · have hd : decide ((1000 : Int) < s.size) = false := by simp; omega
    have hd' : ¬ (1000 : Int) < s.size := by omega
    obtain ⟨hb1, hb2⟩ := frR_bounds s at_
    have hfr := fun x tb h => fread_any x tb h s (by omega) at_
    have herr := frR_err s at_
    have hsp := fun seq nx l => @frR_spell s at_ seq nx l
    generalize frR s at_ = R at hb1 hb2 hfr herr hsp
    obtain ⟨er, seq, l, nx⟩ := R
    unfold FrPost at hfr
    simp only at hb1 hb2 hfr herr
    have hll : l.length ≤ 100000 := by omega
    clear hb2
    by_cases q : er = 0
    · obtain ⟨r1, r2, r3, r4, r5, r6⟩ := hsp seq nx l (by rw [q])
      have hq0 : (er != 0) = false := by simp [q]
      obtain ⟨p, rfl⟩ : ∃ p : Nat, at_ = p := ⟨at_.toNat, by omega⟩
      simp only [Int.toNat_natCast] at r2 r6
      have hpr := fun x tb h ao cap hs => fprint_any x tb h seq hb1 ao l.length cap (fun i => l.getD i default) hs r4 hll
      have hU : (⟨(frS seq (fun i => l.getD i default) l.length).toArray⟩ : ByteArray) = s.extract p nx := by
        rw [r6]
      rw [hU, r5] at hpr
      have i1 : (0 : Int) ≤ (p : Int) := by omega
      have i2 : (nx : Int) ≤ s.size := by omega
      have i3 : (p : Int) ≤ nx := by omega
      have Q := Lib.hid q
      clear hU r5 r6 r4 r1 herr hsp q
      go_enter Try.func12, Try.ntmps12
      go_wp2_with fail
      refine (awake7 _).mono ?_
      rintro x w1 ⟨rfl, hk⟩
      have hB1 := hB0.trans (hk.mono hB0.size)
      clear hk hB0
      go_wp2_with fail
      refine (make_any _).mono ?_
      rintro x w2 ⟨rfl, hT, hk⟩
      have hB2 := hB1.trans (hk.mono hB1.size)
      clear hk hB1
      generalize w1.heap.size = tb at hT ⊢
      go_wp2_with fail
      refine (hfr w2 tb hT).mono ?_
      rintro x w3 ⟨ao, cap, rfl, hown, hk⟩
      have hB3 := hB2.trans (hk.mono hB2.size)
      have hs3 := slArgN_own hown
      have hT3 := hT.kept hk
      clear hk hB2 hown hT hfr
      have hal := (Below.refl w3.heap.size w3).alloc (Nat.le_refl _) (.cells #[.int .u32 seq, .slice ao l.length cap] 48)
      have hB4 := hB3.trans (hal.mono hB3.size)
      have hs4 := SlArgN.kept hs3 hal
      have hT4 := hT3.kept hal
      have hf4 := heap_alloc_new w3 (.cells #[.int .u32 seq, .slice ao l.length cap] 48)
      go_upto_region 5 with fail
      generalize w3.alloc (.cells #[.int .u32 seq, .slice ao l.length cap] 48) = W4 at hB4 hs4 hT4 hf4 ⊢
      generalize w3.heap.size = F at hf4 ⊢
      clear hal hB3 hs3 hT3
      have c0 := cell_blk hf4 0
      have c1 := cell_blk hf4 1
      simp only [List.getElem?_toArray, List.getElem?_cons_zero, List.getElem?_cons_succ] at c0 c1
      go_wp2_with fail
      refine (hpr W4 tb hT4 ao cap hs4).mono ?_
      rintro x w5 ⟨rfl, hk⟩
      have hB5 := hB4.trans (hk.mono hB4.size)
      clear hk hB4 hs4 hT4 hf4 c0 c1 hpr
      go_wp2_with fail
      go_ret
      exact ⟨ret_bool (by simp), hB5⟩
    · have hq0 : (er != 0) = true := by simp [q]
      have he := herr q
      simp only [Prod.mk.injEq, true_and] at he
      obtain ⟨rfl, rfl, rfl⟩ := he
      simp only [List.length_nil] at hfr
      clear herr hsp q
      go_enter Try.func12, Try.ntmps12
      go_wp2_with fail
      refine (awake7 _).mono ?_
      rintro x w1 ⟨rfl, hk⟩
      have hB1 := hB0.trans (hk.mono hB0.size)
      clear hk hB0
      go_wp2_with fail
      refine (make_any _).mono ?_
      rintro x w2 ⟨rfl, hT, hk⟩
      have hB2 := hB1.trans (hk.mono hB1.size)
      clear hk hB1
      generalize w1.heap.size = tb at hT ⊢
      go_wp2_with fail
      refine (hfr w2 tb hT).mono ?_
      rintro x w3 ⟨ao, cap, rfl, hown, hk⟩
      have hB3 := hB2.trans (hk.mono hB2.size)
      clear hk hB2 hown hT hfr
      have hal := (Below.refl w3.heap.size w3).alloc (Nat.le_refl _) (.cells #[.int .u32 (0 : Nat), .slice ao 0 cap] 48)
      have hB4 := hB3.trans (hal.mono hB3.size)
      have hf4 := heap_alloc_new w3 (.cells #[.int .u32 (0 : Nat), .slice ao 0 cap] 48)
      go_upto_region 5 with fail
      have c0 := cell_blk hf4 0
      have c1 := cell_blk hf4 1
      simp only [List.getElem?_toArray, List.getElem?_cons_zero, List.getElem?_cons_succ] at c0 c1
      go_wp2_with fail
      go_ret
      exact ⟨rfl, hB4⟩
  · have hd : decide ((1000 : Int) < s.size) = true := by simp; omega
    have hd' : (1000 : Int) < s.size := by omega
    clear hl
    go_enter Try.func12, Try.ntmps12
    go_wp2_with (go_at_call 33; (with_reducible refine (awake7 _).mono ?_); rintro x0 w1 ⟨rfl, hk⟩; have hB1 := hB0.trans (hk.mono hB0.size); clear hk)
    go_wp2_with (go_at_call 33; (with_reducible refine (awake7 _).mono ?_); rintro x0 w2 ⟨rfl, hk⟩; have hB2 := hB1.trans (hk.mono hB1.size); clear hk)
    go_ret
    exact ⟨rfl, hB2⟩
end Go.Proofs.Ythdenjokedmcfaa
