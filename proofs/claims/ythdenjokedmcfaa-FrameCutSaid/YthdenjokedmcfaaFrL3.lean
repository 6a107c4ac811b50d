/- The walks of the statements of layer 7: FrameCut, FrameBack, FrameNil. (Printed by gen_frl3.py.) -/
import Derived.Test.YthdenjokedmcfaaFrO
import Derived.Test.YthdenjokedmcfaaFrY
import Derived.Test.YthdenjokedmcfaaFrL1
namespace Go.Proofs.Ythdenjokedmcfaa
open Go.RowKit
set_option maxRecDepth 20000
theorem fprint_nil (w : World) (v : Value) (seq : Nat) (oa : Option Addr) (len cap : Nat) (hv : v = .agg #[.int .u32 seq, .slice oa len cap]) : Calls Try.prog 34 #[.pointer none, v] w fun x w' => x = .returned (.tuple #[.string ⟨#[]⟩, .int .i64 16]) ∧ Below w.heap.size w w' := by
  subst hv
  go_enter Try.func34, Try.ntmps34
  go_wp2_with fail
  go_ret2
  exact ⟨rfl, (Below.refl w.heap.size w).alloc (Nat.le_refl _) _⟩
theorem fread_nil (w : World) (s : Value) (n : Value) : Calls Try.prog 36 #[.pointer none, s, n] w fun x w' => x = .returned (.tuple #[.agg #[.int .u32 0, .slice none 0 0], .int .i64 0, .int .i64 16]) ∧ Below w.heap.size w w' := by
  have st0 : QSt w w.heap.size (w.alloc (.cells #[.int .u32 0, .slice none 0 0] 48)) :=
    { bel := (Below.refl w.heap.size w).alloc (Nat.le_refl _) _
      fb := heap_alloc_new w _
      lo := Nat.le_refl _ }
  go_enter Try.func36, Try.ntmps36
  go_upto_region 1 with fail
  generalize w.alloc (.cells #[.int .u32 0, .slice none 0 0] 48) = W0 at st0 ⊢
  obtain ⟨FB, hFB⟩ : ∃ FB, FB = w.heap.size := ⟨_, rfl⟩
  rw [← hFB] at st0 ⊢
  clear hFB
  obtain ⟨y0, y1⟩ := st0.cells
  have yf0 := frozen_blk st0.fb 0
  have yf1 := frozen_blk st0.fb 1
  go_wp2_with fail
  exact bodyPost_ret (v := .tuple #[.agg #[.int .u32 0, .slice none 0 0], .int .i64 0, .int .i64 16]) (by simp [results, Try.results36, go_sem, y0, y1]) rfl ⟨rfl, bel_set3 (bel_set3 st0.bel _ _ st0.lo) _ _ st0.lo⟩
theorem empty_b (l : List UInt8) (h : l = []) : (⟨l.toArray⟩ : ByteArray) = ⟨#[]⟩ := by rw [h]
/-- The frame boxed. -/
structure BSt (w : World) (f : FrV) (F : Nat) (wr : World) : Prop where
  bel : Below w.heap.size w wr
  fb : wr.heap[F]? = some (.cells #[.int .u32 f.seq, .slice f.oa f.len f.cap] 48 (0, 0))
  sl : SlArgN wr f.oa f.len f.cap 6 (fun i j => (f.z i).f j)
theorem BSt.below {w : World} {f : FrV} {F : Nat} {wr w2 : World} (h : BSt w f F wr) (k : Below wr.heap.size wr w2) : BSt w f F w2 :=
  { bel := h.bel.trans (k.mono h.bel.size), fb := (k.block _ (blk_lt h.fb)).trans h.fb, sl := h.sl.kept k }
theorem BSt.cells {w : World} {f : FrV} {F : Nat} {wr : World} (h : BSt w f F wr) : wr.cell? ⟨F, 0, none⟩ = some (.int .u32 f.seq) ∧ wr.cell? ⟨F, 1, none⟩ = some (.slice f.oa f.len f.cap) := by
  refine ⟨?_, ?_⟩ <;> (rw [cell_blk h.fb]; rfl)
theorem BSt.ok {w : World} {f : FrV} {F : Nat} {wr : World} (h : BSt w f F wr) (ho : f.Ok w) : f.Ok wr := { ho with sl := h.sl }
theorem BSt.start {w : World} {f : FrV} (ho : f.Ok w) : BSt w f w.heap.size (w.alloc (.cells #[.int .u32 f.seq, .slice f.oa f.len f.cap] 48)) :=
  { bel := (Below.refl w.heap.size w).alloc (Nat.le_refl _) _, fb := heap_alloc_new w _, sl := ho.sl.kept ((Below.refl w.heap.size w).alloc (Nat.le_refl _) _) }
set_option maxHeartbeats 4000000 in
theorem frameCut_law (f : FrV) (n : Int) (w : World) (ho : f.Ok w) (hn : (Lit.int .i64 n).wf = true) :
    Calls Try.prog 13 #[f.val, .int .i64 n] w fun e w' => e = .returned (.bool true) ∧ Below w.heap.size w w' := by
  obtain ⟨seq, oa, len, cap, z⟩ := f
  have HO := Lib.hid ho
  have st0 := BSt.start ho
  unfold FrV.val
  simp only at st0 ⊢
  have hcl := ho.sl.1
  simp only at hcl
  clear ho
  clear hn
  by_cases hl : len ≤ 100
  · have hd : decide ((100 : Int) < len) = false := by simp; omega
    have hd' : ¬ (100 : Int) < len := by omega
    go_enter Try.func13, Try.ntmps13
    go_wp2_with fail
    generalize w.alloc (.cells #[.int .u32 seq, .slice oa len cap] 48) = W0 at st0 ⊢
    generalize w.heap.size = F at st0 ⊢
    refine (awake7 _).mono ?_
    rintro x w1 ⟨rfl, hk⟩
    have st1 := st0.below hk
    clear hk st0
    obtain ⟨y0, y1⟩ := st1.cells
    go_wp2_with fail
    refine (make_any _).mono ?_
    rintro x w2 ⟨rfl, hT, hk⟩
    have st2 := st1.below hk
    clear hk st1 y0 y1
    generalize w1.heap.size = tb at hT ⊢
    obtain ⟨y0, y1⟩ := st2.cells
    go_wp2_with fail
    refine (fown_any w2 ⟨seq, oa, len, cap, z⟩ (st2.ok HO.out) (by exact hl)).mono ?_
    rintro x w3 ⟨ao, cap3, rfl, hs3, hk⟩
    have st3 := st2.below hk
    have hT3 := hT.kept hk
    clear hk st2 y0 y1 hT
    go_wp2_with fail
    refine (fprint_any w3 tb hT3 seq HO.out.seq ao len cap3 z hs3 HO.out.wf (by omega)).mono ?_
    rintro x w4 ⟨rfl, hk⟩
    have st4 := st3.below hk
    have hT4 := hT3.kept hk
    clear hk st3 hT3 hs3
    have hcut := fun m => @fr_cut ((⟨(frS seq z len).toArray⟩ : ByteArray).extract 0 m) seq len m z
    have hB : frE z len = 0 → frS seq z len = frB seq z len := fun h => by unfold frS; rw [if_pos h]
    have hsz : (⟨(frS seq z len).toArray⟩ : ByteArray).size = (frS seq z len).length := by show (List.toArray _).size = _; simp
    have hex : ∀ m, ((⟨(frS seq z len).toArray⟩ : ByteArray).extract 0 m).data.toList = (frS seq z len).take m := fun m => by
      rw [ext_take]; simp
    have hfl : (frS seq z len).length ≤ 1000 := by
      unfold frS
      split
      · rename_i h
        rw [frB_len]
        have := (frE_zero h).2.2
        omega
      · simp
    have HC := Lib.hid (fun m (h : frE z len = 0) (hm : m < (frS seq z len).length) => hcut m h HO.out.wf HO.out.seq (by rw [← hB h]; exact hm) (by rw [hex m, hB h]))
    clear hcut hB hex
    rw [← hsz] at hfl
    generalize (frS seq z len) = L at hsz hfl HC ⊢
    generalize frE z len = E at HC ⊢
    generalize (⟨L.toArray⟩ : ByteArray) = S at hsz hfl HC ⊢
    by_cases q : E = 0
    · have q0 : (E != 0) = false := by simp [q]
      by_cases n0 : n < 0
      · clear q
        go_wp2_with fail
        go_ret
        exact ⟨rfl, st4.bel⟩
      · by_cases n1 : (S.size : Int) ≤ n
        · clear q
          go_wp2_with fail
          go_ret
          exact ⟨rfl, st4.bel⟩
        · obtain ⟨m, rfl⟩ : ∃ m : Nat, n = m := ⟨n.toNat, by omega⟩
          have hc := HC.out m q (by omega)
          have hrd := fread_any w4 tb hT4 (S.extract 0 m) (by rw [ByteArray.size_extract]; omega) 0
          rw [hc] at hrd
          have hm1 : (m : Int) ≤ S.size := by omega
          clear q hc HC
          go_wp2_with fail
          refine hrd.mono ?_
          unfold FrPost
          rintro x w5 ⟨ao5, cap5, rfl, _, hk⟩
          have st5 := st4.below hk
          have hB6 := st5.bel.alloc st5.bel.size (.cells #[.int .u32 (0 : Nat), .slice ao5 0 cap5] 48)
          clear hk hrd
          simp only [List.length_nil]
          go_wp2_with fail
          go_ret
          exact ⟨rfl, hB6⟩
    · have q0 : (E != 0) = true := by simp [q]
      clear q
      go_wp2_with fail
      go_ret
      exact ⟨rfl, st4.bel⟩
  · have hd : decide ((100 : Int) < len) = true := by simp; omega
    have hd' : (100 : Int) < len := by omega
    clear hl
    go_enter Try.func13, Try.ntmps13
    go_wp2_with fail
    generalize w.alloc (.cells #[.int .u32 seq, .slice oa len cap] 48) = W0 at st0 ⊢
    generalize w.heap.size = F at st0 ⊢
    refine (awake7 _).mono ?_
    rintro x w1 ⟨rfl, hk⟩
    have st1 := st0.below hk
    clear hk st0
    obtain ⟨y0, y1⟩ := st1.cells
    go_wp2_with (go_at_call 33; (refine (awake7 _).mono ?_); rintro x0 w2 ⟨rfl, hk⟩; have st2 := st1.below hk)
    go_ret
    exact ⟨rfl, st2.bel⟩
end Go.Proofs.Ythdenjokedmcfaa
