/- The marker: strings.Repeat at 16 bytes 255, by the builder's contracts. No condition. -/
import Derived.Test.YthdenjokedmcfaaMkA
namespace Go.Proofs.Ythdenjokedmcfaa
open Go.RowKit
set_option maxRecDepth 100000
theorem bs_rep (m n : Nat) : Lib.byteCells (List.replicate m (255 : UInt8)) ++ Lib.strCells ⟨(List.replicate n (255 : UInt8)).toArray⟩ = Lib.byteCells (List.replicate (m + n) 255) := by
  simp [Lib.byteCells, Lib.strCells, List.replicate_append_replicate]
set_option maxHeartbeats 2000000 in
theorem repeat_any (w : World) : Calls Try.prog 65 #[.string ⟨#[255]⟩, .int .i64 16] w fun e w' => e = .returned (.string ⟨(List.replicate 16 (255 : UInt8)).toArray⟩) ∧ Below w.heap.size w w' := by
  have hg := Try.Builder_Grow_fresh w.heap.size w.heap.size 16 (w.alloc (.cells #[.pointer none, .slice none 0 0] 149)) (Nat.le_refl _) (heap_alloc_new w _) (by simp) (by decide)
  have hml : Calls Try.prog 83 #[.int .u64 1, .int .u64 16] w fun e w' => e = .returned (.tuple #[.int .u64 0, .int .u64 16]) ∧ w' = w := Try.bits_Mul 1 16 (by decide) (by decide) w
  have hB0 := (Below.refl w.heap.size w).alloc (Nat.le_refl _) (.cells #[.pointer none, .slice none 0 0] 149)
  go_enter Try.func65, Try.ntmps65
  go_wp2_with fail
  refine hml.mono ?_
  rintro x w1 ⟨rfl, rfl⟩
  clear hml
  go_wp2_with fail
  refine hg.mono ?_
  rintro x w2 ⟨rfl, hb2, hk2⟩
  have hB2 := hB0.trans hk2
  have hz := hB2.size
  clear hg hk2 hB0
  go_wp2_with fail
  refine (bstr_any (.of hb2) ⟨#[255]⟩ (by decide) hz).mono ?_
  rintro x w3 ⟨rfl, hb3, hk3⟩
  have hb3' : Lib.BuilderAtF 149 5 w1.heap.size w1.heap.size (.pointer (some ⟨w1.heap.size, 0, none⟩)) (Lib.byteCells (List.replicate 1 (255 : UInt8))) w3 := hb3
  have hB3 := hB2.trans hk3
  clear hb2 hk3 hB2 hz hb3
  go_wp2_with fail
  go_loopg [] 4 (fun k wr => ∃ m, ((k = 4 ∧ m = 1) ∨ (k = 3 ∧ m = 2) ∨ (k = 2 ∧ m = 4) ∨ (k = 1 ∧ m = 8) ∨ (k = 0 ∧ m = 16)) ∧ Lib.BuilderAtF 149 5 w1.heap.size w1.heap.size (.pointer (some ⟨w1.heap.size, 0, none⟩)) (Lib.byteCells (List.replicate m (255 : UInt8))) wr ∧ Below w1.heap.size w1 wr)
  case atStart => exact ⟨1, .inl ⟨rfl, rfl⟩, hb3', hB3⟩
  case round =>
    clear hb3' hB3
    obtain ⟨m, hm, hb, hB⟩ := hrel
    have hlen := Any.Builder_Len_f Try.lays170 w1.heap.size w1.heap.size _ wr (Or.inr hb)
    have hz := hB.size
    rcases hm with ⟨rfl, rfl⟩ | ⟨rfl, rfl⟩ | ⟨rfl, rfl⟩ | ⟨rfl, rfl⟩ | ⟨rfl, rfl⟩
    all_goals simp only [Lib.byteCells_length, List.length_replicate] at hlen
    · go_wp2_with (go_at_call 87; (refine hlen.mono ?_); rintro x0 w5 ⟨rfl, rfl⟩)
      refine (bString_any hb (by decide)).mono ?_
      rintro x0 w6 ⟨rfl, hb6, hk6⟩
      have hB6 := hB.trans hk6
      have hz6 := hB6.size
      have hx : (⟨(List.replicate 1 (255 : UInt8)).toArray⟩ : ByteArray).extract 0 1 = ⟨(List.replicate 1 (255 : UInt8)).toArray⟩ := by decide +kernel
      have hw := bstr_any hb6 ⟨(List.replicate 1 (255 : UInt8)).toArray⟩ (by rw [Lib.byteCells_length]; decide) hz6
      rw [bs_rep] at hw
      have hs : ((⟨(List.replicate 1 (255 : UInt8)).toArray⟩ : ByteArray).size) = 1 := by decide +kernel
      clear hb hlen hz hb6 hk6 hB hz6
      go_wp2_with fail
      refine hw.mono ?_
      rintro x0 w7 ⟨rfl, hb7, hk7⟩
      have hB7 := hB6.trans hk7
      go_wp2_with fail
      go_roundg 3
      case measure => omega
      case rel => exact ⟨2, by omega, hb7, hB7⟩
    · go_wp2_with (go_at_call 87; (refine hlen.mono ?_); rintro x0 w5 ⟨rfl, rfl⟩)
      refine (bString_any hb (by decide)).mono ?_
      rintro x0 w6 ⟨rfl, hb6, hk6⟩
      have hB6 := hB.trans hk6
      have hz6 := hB6.size
      have hx : (⟨(List.replicate 2 (255 : UInt8)).toArray⟩ : ByteArray).extract 0 2 = ⟨(List.replicate 2 (255 : UInt8)).toArray⟩ := by decide +kernel
      have hw := bstr_any hb6 ⟨(List.replicate 2 (255 : UInt8)).toArray⟩ (by rw [Lib.byteCells_length]; decide) hz6
      rw [bs_rep] at hw
      have hs : ((⟨(List.replicate 2 (255 : UInt8)).toArray⟩ : ByteArray).size) = 2 := by decide +kernel
      clear hb hlen hz hb6 hk6 hB hz6
      go_wp2_with fail
      refine hw.mono ?_
      rintro x0 w7 ⟨rfl, hb7, hk7⟩
      have hB7 := hB6.trans hk7
      go_wp2_with fail
      go_roundg 2
      case measure => omega
      case rel => exact ⟨4, by omega, hb7, hB7⟩
    · go_wp2_with (go_at_call 87; (refine hlen.mono ?_); rintro x0 w5 ⟨rfl, rfl⟩)
      refine (bString_any hb (by decide)).mono ?_
      rintro x0 w6 ⟨rfl, hb6, hk6⟩
      have hB6 := hB.trans hk6
      have hz6 := hB6.size
      have hx : (⟨(List.replicate 4 (255 : UInt8)).toArray⟩ : ByteArray).extract 0 4 = ⟨(List.replicate 4 (255 : UInt8)).toArray⟩ := by decide +kernel
      have hw := bstr_any hb6 ⟨(List.replicate 4 (255 : UInt8)).toArray⟩ (by rw [Lib.byteCells_length]; decide) hz6
      rw [bs_rep] at hw
      have hs : ((⟨(List.replicate 4 (255 : UInt8)).toArray⟩ : ByteArray).size) = 4 := by decide +kernel
      clear hb hlen hz hb6 hk6 hB hz6
      go_wp2_with fail
      refine hw.mono ?_
      rintro x0 w7 ⟨rfl, hb7, hk7⟩
      have hB7 := hB6.trans hk7
      go_wp2_with fail
      go_roundg 1
      case measure => omega
      case rel => exact ⟨8, by omega, hb7, hB7⟩
    · go_wp2_with (go_at_call 87; (refine hlen.mono ?_); rintro x0 w5 ⟨rfl, rfl⟩)
      refine (bString_any hb (by decide)).mono ?_
      rintro x0 w6 ⟨rfl, hb6, hk6⟩
      have hB6 := hB.trans hk6
      have hz6 := hB6.size
      have hx : (⟨(List.replicate 8 (255 : UInt8)).toArray⟩ : ByteArray).extract 0 8 = ⟨(List.replicate 8 (255 : UInt8)).toArray⟩ := by decide +kernel
      have hw := bstr_any hb6 ⟨(List.replicate 8 (255 : UInt8)).toArray⟩ (by rw [Lib.byteCells_length]; decide) hz6
      rw [bs_rep] at hw
      have hs : ((⟨(List.replicate 8 (255 : UInt8)).toArray⟩ : ByteArray).size) = 8 := by decide +kernel
      clear hb hlen hz hb6 hk6 hB hz6
      go_wp2_with fail
      refine hw.mono ?_
      rintro x0 w7 ⟨rfl, hb7, hk7⟩
      have hB7 := hB6.trans hk7
      go_wp2_with fail
      go_roundg 0
      case measure => omega
      case rel => exact ⟨16, by omega, hb7, hB7⟩
    · go_wp2_with (go_at_call 87; (refine hlen.mono ?_); rintro x0 w5 ⟨rfl, rfl⟩)
      refine (bString_any hb (by decide)).mono ?_
      rintro x0 w6 ⟨rfl, hb6, hk6⟩
      have hB6 := hB.trans hk6
      go_wp2_with fail
      go_ret
      exact ⟨rfl, hB6⟩
theorem marker_any (w : World) : Calls Try.prog 39 #[] w fun e w' => e = .returned (.string ⟨(List.replicate 16 (255 : UInt8) ++ [84, 65, 70, 82, 73, 76]).toArray⟩) ∧ Below w.heap.size w w' := by
  have hr := repeat_any w
  go_enter Try.func39, Try.ntmps39
  go_wp2_with fail
  refine hr.mono ?_
  rintro x w1 ⟨rfl, hk⟩
  have hsz : (⟨(List.replicate 16 (255 : UInt8)).toArray⟩ : ByteArray).size = 16 := by decide +kernel
  go_wp2_with fail
  go_ret
  exact ⟨rfl, hk⟩
end Go.Proofs.Ythdenjokedmcfaa
