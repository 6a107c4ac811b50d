/- Contracts of package crc and of its reference: Make, Sum. No condition but those that each names. -/
import Derived.Test.YthdenjokedmcfaaCur
import Derived.Test.YthdenjokedmcfaaCrc
import Derived.IntWalk
import Derived.Deep.DeepCutAuto
import Derived.Deep.QuietTactic
namespace Go.Proofs.Ythdenjokedmcfaa
open Go.RowKit
set_option maxRecDepth 20000
/-- Block b is the table. -/
def IsTab (w : World) (b : Nat) : Prop := ∃ C : Array Value, w.heap[b]? = some (.cells C 80 (0, 0)) ∧ C.size = 256 ∧ ∀ j, j < 256 → C[j]? = some (.int .u32 (crN 8 j))
theorem bel_set2 {B : Nat} {w w2 : World} (h : Below B w w2) (p : Addr) (v : Value) (hp : B ≤ p.block) : Below B w (w2.setCell p v) :=
  ⟨h.os, h.tape, h.output, by have := h.size; simp [World.setCell]; omega, fun k hk => by rw [Below.heap_setCell _ _ _ _ (fun e => absurd hk (by rw [e]; omega))]; exact h.block k hk⟩
set_option maxHeartbeats 4000000 in
theorem make_any (w : World) : Calls Try.prog 18 #[] w fun e w' => e = .returned (.pointer (some ⟨w.heap.size, 0, none⟩)) ∧ IsTab w' w.heap.size ∧ Below w.heap.size w w' := by
  go_enter Try.func18, Try.ntmps18
  go_upto_region 2 with fail
  have hz : Try.zeroCells80.size = 256 := by kernel_rfl
  have h0 : (w.alloc (.cells Try.zeroCells80 80)).heap[w.heap.size]? = some (.cells Try.zeroCells80 80 (0, 0)) := heap_alloc_new w _
  have hB0 := (Below.refl w.heap.size w).alloc (Nat.le_refl _) (.cells Try.zeroCells80 80)
  generalize w.alloc (.cells Try.zeroCells80 80) = W0 at h0 hB0 ⊢
  obtain ⟨b, hb⟩ : ∃ b, b = w.heap.size := ⟨_, rfl⟩
  rw [← hb] at h0 ⊢
  have HB := Lib.hid hb
  clear hb
  generalize Try.zeroCells80 = C0 at hz h0 ⊢
  go_wp2_with fail
  go_loopw [6] (fun x wr => ∃ (i : Nat) (C : Array Value), x = .int .i64 i ∧ i ≤ 256 ∧ wr.heap[b]? = some (.cells C 80 (0, 0)) ∧ C.size = 256 ∧ (∀ j, j < i → C[j]? = some (.int .u32 (crN 8 j))) ∧ Below w.heap.size w wr) (fun x _ => 256 - (intOf x).toNat)
  case atStart => exact ⟨0, C0, rfl, by omega, h0, hz, fun j hj => absurd hj (Nat.not_lt_zero _), hB0⟩
  case round =>
    clear h0 hz hB0
    obtain ⟨i, C, rfl, hi, hc, hs, ht, hB⟩ := hrel
    have HT := Lib.hid (And.intro hs ht)
    clear hs ht
    by_cases hlt : i < 256
    · have hil : (i : Int) < 256 := by omega
      have hw32 : IntKind.u32.wrap (i : Int) = i := by rw [IntKind.wrap_u32]; omega
      go_wp2_with fail
      go_loopw [3, 11] (fun x k wr2 => ∃ m : Nat, k = .int .i64 m ∧ x = .int .u32 (crN m i) ∧ m ≤ 8 ∧ wr2 = wr) (fun _ k _ => 8 - (intOf k).toNat)
      case atStart => exact ⟨0, rfl, rfl, by omega, rfl⟩
      case round =>
        obtain ⟨m, rfl, rfl, hm, rfl⟩ := hrel
        by_cases hm8 : m < 8
        · have hml : (m : Int) < 8 := by omega
          have hxl : crN m i < 4294967296 := crN_lt m (by omega)
          have hcb := cr_bits (crN m i) hxl
          have HS := Lib.hid (crN_snoc m i)
          rw [IntKind.wrap_u32] at hcb
          have HCB := Lib.hid hcb
          clear hcb
          generalize crN m i = x at hxl HCB HS ⊢
          go_wp2_with fail
          go_roundw
          case rel => exact ⟨m + 1, by go_num, by rw [HS.out, HCB.out], by omega, by trivial⟩
          case measure => simp [intOf]; omega
        · obtain rfl : m = 8 := by omega
          have hcc : wr.cell? ⟨b, i, none⟩ = some (C[i]'(by rw [HT.out.1]; exact hlt)) := by rw [cell_blk hc, Array.getElem?_eq_getElem]
          have hf := frozen_blk hc i
          go_wp2_with fail
          go_roundw
          case rel =>
            refine ⟨i + 1, C.setIfInBounds i (.int .u32 (crN 8 i)), by go_num, by omega, blk_setCell hc _, by simp [HT.out.1], fun j hj => ?_, bel_set2 hB _ _ (Nat.le_of_eq HB.out.symm)⟩
            rw [Array.getElem?_setIfInBounds]
            by_cases h : i = j
            · rw [if_pos h, h, if_pos (by rw [HT.out.1]; omega)]
            · rw [if_neg h]; exact HT.out.2 j (by omega)
          case measure => simp [intOf]; omega
    · obtain rfl : i = 256 := by omega
      go_wp2_with fail
      go_ret
      exact ⟨by rw [HB.out]; rfl, ⟨C, HB.out ▸ hc, HT.out⟩, hB⟩
theorem IsTab.kept {w w' : World} {b : Nat} (h : IsTab w b) (k : Below w.heap.size w w') : IsTab w' b := by
  obtain ⟨C, h1, h2⟩ := h
  exact ⟨C, (k.block b (blk_lt h1)).trans h1, h2⟩
theorem IsTab.only {S : Nat → Prop} {w w' : World} {b : Nat} (h : IsTab w b) (o : Only S w w') (hn : ¬ S b) : IsTab w' b := by
  obtain ⟨C, h1, h2⟩ := h
  exact ⟨C, o.keeps h1 hn, h2⟩
theorem IsTab.cell {w : World} {b : Nat} (h : IsTab w b) {j : Nat} (hj : j < 256) : w.cell? ⟨b, j, none⟩ = some (.int .u32 (crN 8 j)) := by
  obtain ⟨C, h1, _, h2⟩ := h
  rw [cell_blk h1]
  exact h2 j hj
theorem u8_xor_at (x c : Nat) (hc : c < 256) : bits .xor .u8 ((x : Int) % 256) (c : Int) = ((x % 256 ^^^ c : Nat) : Int) := by
  rw [show ((x : Int) % 256) = ((x % 256 : Nat) : Int) by omega, u8_xor_nat _ _ (by omega) hc]
set_option maxHeartbeats 4000000 in
theorem csum_any (w : World) (tb g : Nat) (s : ByteArray) (hT : IsTab w tb) (hg : w.cell? ⟨g, 0, none⟩ = some (.string s)) (hs : s.size ≤ 140737488355328) :
    Calls Try.prog 52 #[.pointer (some ⟨tb, 0, none⟩), .slice (some ⟨g, 0, none⟩) 1 1] w fun e w' => e = .returned (.int .u32 (crcV s.data.toList)) ∧ ∃ n, w.drewN n = w' := by
  go_enter Try.func52, Try.ntmps52
  go_wp2_with fail
  go_loopw [5, 13] (fun x k wr => ∃ n : Nat, wr = w.drewN n ∧ ((k = .int .i64 0 ∧ x = .int .u32 4294967295) ∨ (k = .int .i64 1 ∧ x = .int .u32 (crcL 4294967295 s.data.toList)))) (fun _ k _ => 1 - (intOf k).toNat)
  case atStart => exact ⟨0, rfl, .inl ⟨rfl, rfl⟩⟩
  case round =>
    obtain ⟨n, rfl, hr⟩ := hrel
    rcases hr with ⟨rfl, rfl⟩ | ⟨rfl, rfl⟩
    · go_wp2_with fail
      go_loopw [5, 8] (fun x k wr2 => ∃ (i m : Nat), k = .int .i64 i ∧ i ≤ s.size ∧ x = .int .u32 (crcL 4294967295 (s.data.toList.take i)) ∧ wr2 = w.drewN m) (fun _ k _ => s.size - (intOf k).toNat)
      case atStart => exact ⟨0, n, rfl, by omega, by simp [crcL], rfl⟩
      case round =>
        obtain ⟨i, m, rfl, hi, rfl, rfl⟩ := hrel
        by_cases hlt : i < s.size
        · have hil : (i : Int) < s.size := by omega
          have hx := crcL_lt (s.data.toList.take i) (x := 4294967295) (by decide)
          have hsn : crcL 4294967295 (s.data.toList.take (i + 1)) = crS (crcL 4294967295 (s.data.toList.take i)) s[i].toNat := by
            rw [List.take_succ_eq_append_getElem (by simpa using hlt), crcL_snoc]
            congr 2
          obtain ⟨c, hc⟩ : ∃ c : Nat, c = s[i].toNat := ⟨_, rfl⟩
          have hcl : c < 256 := by rw [hc]; exact s[i].toNat_lt
          rw [← hc] at hsn
          have hc' : s[i].toNat = c := hc.symm
          generalize crcL 4294967295 (s.data.toList.take i) = x at hx hsn ⊢
          have HS := Lib.hid hsn
          have h8 := u8_xor_at x c hcl
          obtain ⟨j, hj⟩ : ∃ j : Nat, j = x % 256 ^^^ c := ⟨_, rfl⟩
          have hjl : j < 256 := by rw [hj]; exact Nat.xor_lt_two_pow (n := 8) (by omega) (by omega)
          have hcs := crs_bits x j c hx hj hcl
          rw [← hj] at h8
          have hcell := hT.cell hjl
          have HCS := Lib.hid hcs
          have hj0 : (0 : Int) ≤ (j : Int) := by omega
          have hj1 : (j : Int) < 256 := by omega
          clear hsn hj hcs hc
          go_wp2_with fail
          go_quiet (fail)
          go_wp2_with fail
          go_roundw
          case rel => exact ⟨i + 1, _, by go_num, by omega, by rw [HCS.out, HS.out], rfl⟩
          case measure => simp [intOf]; omega
        · obtain rfl : i = s.size := by omega
          have hE := Lib.hid (show s.data.toList.take s.size = s.data.toList from List.take_of_length_le (by simp))
          go_wp2_with fail
          go_roundw
          case rel => exact ⟨_, rfl, .inr ⟨by go_num, by rw [hE.out]⟩⟩
          case measure => simp [intOf]
    · have hx := crcL_lt s.data.toList (x := 4294967295) (by decide)
      have hcv := Lib.hid (show crcV s.data.toList = crcL 4294967295 s.data.toList ^^^ 4294967295 from rfl)
      generalize crcL 4294967295 s.data.toList = x at hx hcv ⊢
      go_wp2_with fail
      go_ret
      refine ⟨ret_int ?_, _, rfl⟩
      have h9 := u32_xor_nat 4294967295 x (by decide) hx
      rw [show IntKind.u32.max = ((4294967295 : Nat) : Int) from by decide, h9, hcv.out, Nat.xor_comm]
theorem rturn_any (s : ByteArray) (x0 : Nat) (hx0 : x0 < 4294967296) (hs : s.size ≤ 140737488355328) (w : World) :
    Calls Try.prog 70 #[.int .u32 x0, .string s] w fun e w' => e = .returned (.int .u32 (crcL x0 s.data.toList)) ∧ ∃ n, w.drewN n = w' := by
  have HX0 := Lib.hid hx0
  clear hx0
  go_enter Try.func70, Try.ntmps70
  go_wp2_with fail
  go_loopw [0, 5] (fun x k wr => ∃ (i m : Nat), k = .int .i64 i ∧ i ≤ s.size ∧ x = .int .u32 (crcL x0 (s.data.toList.take i)) ∧ wr = w.drewN m) (fun _ k _ => s.size - (intOf k).toNat)
  case atStart => exact ⟨0, 0, rfl, by omega, by simp [crcL], rfl⟩
  case round =>
    obtain ⟨i, m, rfl, hi, rfl, rfl⟩ := hrel
    by_cases hlt : i < s.size
    · have hil : (i : Int) < s.size := by omega
      have hx := crcL_lt (s.data.toList.take i) HX0.out
      have hsn : crcL x0 (s.data.toList.take (i + 1)) = crS (crcL x0 (s.data.toList.take i)) s[i].toNat := by
        rw [List.take_succ_eq_append_getElem (by simpa using hlt), crcL_snoc]
        congr 2
      obtain ⟨c, hc⟩ : ∃ c : Nat, c = s[i].toNat := ⟨_, rfl⟩
      have hcl : c < 256 := by rw [hc]; exact s[i].toNat_lt
      rw [← hc] at hsn
      have hc' : s[i].toNat = c := hc.symm
      generalize crcL x0 (s.data.toList.take i) = x at hx hsn ⊢
      have h32 := u32_xor_nat x c hx (by omega)
      obtain ⟨y, hy⟩ : ∃ y : Nat, y = x ^^^ c := ⟨_, rfl⟩
      have hyl : y < 4294967296 := by rw [hy]; exact Nat.xor_lt_two_pow (n := 32) hx (by omega)
      have HS := Lib.hid (show crcL x0 (s.data.toList.take (i + 1)) = crN 8 y by rw [hsn, hy]; rfl)
      rw [← hy] at h32
      clear hsn hy hc
      go_wp2_with fail
      go_loopw [0, 6] (fun x k wr2 => ∃ (j m : Nat), k = .int .i64 j ∧ j ≤ 8 ∧ x = .int .u32 (crN j y) ∧ wr2 = w.drewN m) (fun _ k _ => 8 - (intOf k).toNat)
      case atStart => exact ⟨0, m, rfl, by omega, rfl, rfl⟩
      case round =>
        obtain ⟨j, m2, rfl, hj, rfl, rfl⟩ := hrel
        by_cases hj8 : j < 8
        · have hjl : (j : Int) < 8 := by omega
          have hzl : crN j y < 4294967296 := crN_lt j hyl
          have HN := Lib.hid (crN_snoc j y)
          generalize crN j y = z at hzl HN ⊢
          by_cases par : z % 2 = 1
          · have pa : ((z : Int) % 2 == 1) = true := by simp; omega
            have hq := u32_xor_nat (z / 2) 3988292384 (by omega) (by decide)
            have HQ := Lib.hid hq
            have HP := Lib.hid (show cr z = z / 2 ^^^ 3988292384 by unfold cr; rw [if_pos par])
            clear hq par
            go_wp2_with fail
            go_roundw
            case rel => exact ⟨j + 1, _, by go_num, by omega, by rw [HN.out, HP.out, ← HQ.out]; congr 2, rfl⟩
            case measure => simp [intOf]; omega
          · have pa : ((z : Int) % 2 == 1) = false := by simp; omega
            have HP := Lib.hid (show cr z = z / 2 by unfold cr; rw [if_neg par, Nat.xor_zero])
            clear par
            go_wp2_with fail
            go_roundw
            case rel => exact ⟨j + 1, _, by go_num, by omega, by rw [HN.out, HP.out]; congr 1, rfl⟩
            case measure => simp [intOf]; omega
        · obtain rfl : j = 8 := by omega
          go_wp2_with fail
          go_roundw
          case rel => exact ⟨i + 1, _, by go_num, by omega, by rw [HS.out], rfl⟩
          case measure => simp [intOf]; omega
    · obtain rfl : i = s.size := by omega
      have hE := Lib.hid (show s.data.toList.take s.size = s.data.toList from List.take_of_length_le (by simp))
      go_wp2_with fail
      go_ret
      exact ⟨by rw [hE.out]; rfl, _, rfl⟩
theorem rsum_any (s : ByteArray) (hs : s.size ≤ 140737488355328) (w : World) :
    Calls Try.prog 47 #[.string s] w fun e w' => e = .returned (.int .u32 (crcV s.data.toList)) ∧ ∃ n, w.drewN n = w' := by
  have ht := rturn_any s 4294967295 (by decide) hs w
  have hx := crcL_lt s.data.toList (x := 4294967295) (by decide)
  have hcv := Lib.hid (show crcV s.data.toList = crcL 4294967295 s.data.toList ^^^ 4294967295 from rfl)
  generalize crcL 4294967295 s.data.toList = x at hx hcv ht
  go_enter Try.func47, Try.ntmps47
  go_wp2_with fail
  refine ht.mono ?_
  rintro e w1 ⟨rfl, n, rfl⟩
  go_wp2_with fail
  go_ret
  have h9 := u32_xor_nat x 4294967295 hx (by decide)
  exact ⟨ret_int (by rw [hcv.out]; exact h9), _, rfl⟩
end Go.Proofs.Ythdenjokedmcfaa
