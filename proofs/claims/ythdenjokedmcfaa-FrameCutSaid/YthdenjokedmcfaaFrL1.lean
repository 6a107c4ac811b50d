/- The walks of the statements of layer 7: FrameReads. -/
import Derived.Test.YthdenjokedmcfaaFrA
namespace Go.Proofs.Ythdenjokedmcfaa
open Go.RowKit
set_option maxRecDepth 20000
theorem rdL_len (s : ByteArray) : ∀ (f cy ct p : Nat), (rdL s f cy ct p).1.length ≤ f
  | 0, _, _, _ => Nat.le_refl _
  | f + 1, cy, ct, p => by
    rw [rdL]
    split
    · split
      · exact Nat.succ_le_succ (rdL_len s f _ _ _)
      · exact Nat.zero_le _
    · exact Nat.zero_le _
theorem frR_bounds (s : ByteArray) (at_ : Int) : (frR s at_).2.1 < 4294967296 ∧ (frR s at_).2.2.1.length ≤ s.size := by
  unfold frR
  split
  · exact ⟨(show (0 : Nat) < 4294967296 by decide), Nat.zero_le _⟩
  · rename_i h
    unfold fRd
    split
    · exact ⟨(show (0 : Nat) < 4294967296 by decide), Nat.zero_le _⟩
    · rename_i hE
      split
      · exact ⟨(show (0 : Nat) < 4294967296 by decide), Nat.zero_le _⟩
      · split
        · exact ⟨(show (0 : Nat) < 4294967296 by decide), Nat.zero_le _⟩
        · split
          · exact ⟨(show (0 : Nat) < 4294967296 by decide), Nat.zero_le _⟩
          · split
            · exact ⟨(show (0 : Nat) < 4294967296 by decide), Nat.zero_le _⟩
            · refine ⟨?_, ?_⟩
              · show (fh1 s at_.toNat).1 < 4294967296
                have h0 : fhE s at_.toNat = 0 := by simpa using hE
                have hag : ¬ agree s at_.toNat ⟨mk.toArray⟩ < 22 := by
                  intro c
                  unfold fhE at h0
                  rw [if_pos c] at h0
                  split at h0 <;> cases h0
                have h2 := (agree_le s at_.toNat (by omega)).2
                have := wrd_le s (at_.toNat + 22) (by omega)
                unfold fh1
                omega
              · refine Nat.le_trans (rdL_len _ _ _ _ _) ?_
                unfold fhP
                rw [ByteArray.size_extract]
                omega
set_option maxHeartbeats 2000000 in
theorem frameReads_law (s : ByteArray) (at_ : Int) (w : World) (hs : s.size ≤ maxLen) (hat : (Lit.int .i64 at_).wf = true) :
    Calls Try.prog 10 #[.string s, .int .i64 at_] w fun e w' => e = .returned (.bool true) ∧ Below w.heap.size w w' := by
  unfold maxLen at hs
  clear hat
  have hB0 := Below.refl w.heap.size w
  by_cases hl : s.size ≤ 1000
  · have hd : decide ((1000 : Int) < s.size) = false := by simp; omega
    have hd' : ¬ (1000 : Int) < s.size := by omega
    obtain ⟨hb1, hb2⟩ := frR_bounds s at_
    have hfr := fun x tb h => fread_any x tb h s (by omega) at_
    have hrr := fun x => rfread_any x s (by omega) at_
    generalize frR s at_ = R at hb1 hb2 hfr hrr
    obtain ⟨er, seq, l, nx⟩ := R
    unfold FrPost at hfr hrr
    simp only at hb1 hb2 hfr hrr
    have hll : l.length ≤ 1000000 := by omega
    clear hb2
    go_enter Try.func10, Try.ntmps10
    go_wp2_with fail
    refine (awake7 _).mono ?_
    rintro x w1 ⟨rfl, hk⟩
    have hB1 := hB0.trans (hk.mono hB0.size)
    clear hk hB0
    go_wp2_with fail
    refine (make_any _).mono ?_
    rintro x w2 ⟨rfl, hT, hk⟩
    have hB2 := hB1.trans (hk.mono hB1.size)
    clear hk hB1
    generalize w1.heap.size = tb at hT ⊢
    go_wp2_with fail
    refine (hfr w2 tb hT).mono ?_
    rintro x w3 ⟨ao, cap, rfl, hown, hk⟩
    have hB3 := hB2.trans (hk.mono hB2.size)
    have hs3 := slArgN_own hown
    clear hk hB2 hown hT hfr
    have hal := (Below.refl w3.heap.size w3).alloc (Nat.le_refl _) (.cells #[.int .u32 seq, .slice ao l.length cap] 48)
    have hB4 := hB3.trans (hal.mono hB3.size)
    have hs4 := SlArgN.kept hs3 hal
    have hf4 := heap_alloc_new w3 (.cells #[.int .u32 seq, .slice ao l.length cap] 48)
    go_upto_region 4 with fail
    generalize w3.alloc (.cells #[.int .u32 seq, .slice ao l.length cap] 48) = W4 at hB4 hs4 hf4 ⊢
    generalize w3.heap.size = F at hf4 ⊢
    clear hal hB3 hs3
    go_wp2_with fail
    refine (hrr W4).mono ?_
    rintro x w5 ⟨ao2, cap2, rfl, hown, hk⟩
    have hB5 := hB4.trans (hk.mono hB4.size)
    have hs5 := SlArgN.kept hs4 hk
    have hg5 := slArgN_own hown
    have hf5 := (hk.block F (blk_lt hf4)).trans hf4
    clear hk hB4 hs4 hf4 hown hrr
    have hal := (Below.refl w5.heap.size w5).alloc (Nat.le_refl _) (.cells #[.int .u32 seq, .slice ao2 l.length cap2] 48)
    have hB6 := hB5.trans (hal.mono hB5.size)
    have hs6 := SlArgN.kept hs5 hal
    have hg6 := SlArgN.kept hg5 hal
    have hf6 := (hal.block F (blk_lt hf5)).trans hf5
    have hf7 := heap_alloc_new w5 (.cells #[.int .u32 seq, .slice ao2 l.length cap2] 48)
    go_upto_region 5 with fail
    generalize w5.alloc (.cells #[.int .u32 seq, .slice ao2 l.length cap2] 48) = W6 at hB6 hs6 hg6 hf6 hf7 ⊢
    generalize w5.heap.size = G at hf7 ⊢
    clear hal hB5 hs5 hg5 hf5
    have c0 := cell_blk hf6 0
    have c1 := cell_blk hf6 1
    have d0 := cell_blk hf7 0
    have d1 := cell_blk hf7 1
    simp only [List.getElem?_toArray, List.getElem?_cons_zero, List.getElem?_cons_succ] at c0 c1 d0 d1
    have hsm := rfsame_any W6 seq hb1 _ _ l.length _ _ (fun i => l.getD i default) hs6 hg6 hll
    clear hs6 hg6 hf6 hf7
    go_wp2_with (go_at_call 38; (refine hsm.mono ?_); rintro x0 w9 ⟨rfl, hk9⟩; have hB9 := hB6.trans (hk9.mono hB6.size))
    go_ret
    exact ⟨ret_bool (by simp), hB9⟩
  · have hd : decide ((1000 : Int) < s.size) = true := by simp; omega
    have hd' : (1000 : Int) < s.size := by omega
    clear hl
    go_enter Try.func10, Try.ntmps10
    go_wp2_with (go_at_call 33; (with_reducible refine (awake7 _).mono ?_); rintro x0 w1 ⟨rfl, hk⟩; have hB1 := hB0.trans (hk.mono hB0.size); clear hk)
    go_wp2_with (go_at_call 33; (with_reducible refine (awake7 _).mono ?_); rintro x0 w2 ⟨rfl, hk⟩; have hB2 := hB1.trans (hk.mono hB1.size); clear hk)
    go_ret
    exact ⟨rfl, hB2⟩
end Go.Proofs.Ythdenjokedmcfaa
