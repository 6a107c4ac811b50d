/- A bundle of: CrcM MkA Mk. -/
import Derived.Test.YtbfipgeoecbpaaaCur
import Derived.Test.YtbfipgeoecbpaaaBP
import Derived.IntWalk
import Derived.Deep.DeepCutAuto
import Derived.Deep.QuietTactic
import Derived.Test.YtbfipgeoecbpaaaShelf
import Derived.Shelf.Strings.BuilderF
import Derived.Lib.FrozenHead
import Derived.Deep.LoopGhost
/- Contracts of package crc and of its reference: Make, Sum. No condition but those that each names. -/
namespace Go.Proofs.Ytbfipgeoecbpaaa
open Go.RowKit
set_option maxRecDepth 20000
/-- Block b is the table. -/
def IsTab (w : World) (b : Nat) : Prop := ∃ C : Array Value, w.heap[b]? = some (.cells C 105 (0, 0)) ∧ C.size = 256 ∧ ∀ j, j < 256 → C[j]? = some (.int .u32 (crN 8 j))
theorem bel_set2 {B : Nat} {w w2 : World} (h : Below B w w2) (p : Addr) (v : Value) (hp : B ≤ p.block) : Below B w (w2.setCell p v) :=
  ⟨h.os, h.tape, h.output, by have := h.size; simp [World.setCell]; omega, fun k hk => by rw [Below.heap_setCell _ _ _ _ (fun e => absurd hk (by rw [e]; omega))]; exact h.block k hk⟩
set_option maxHeartbeats 4000000 in
theorem make_any (w : World) : Calls Try.prog 14 #[] w fun e w' => e = .returned (.pointer (some ⟨w.heap.size, 0, none⟩)) ∧ IsTab w' w.heap.size ∧ Below w.heap.size w w' := by
  go_enter Try.func14, Try.ntmps14
  go_upto_region 2 with fail
  have hz : Try.zeroCells105.size = 256 := by kernel_rfl
  have h0 : (w.alloc (.cells Try.zeroCells105 105)).heap[w.heap.size]? = some (.cells Try.zeroCells105 105 (0, 0)) := heap_alloc_new w _
  have hB0 := (Below.refl w.heap.size w).alloc (Nat.le_refl _) (.cells Try.zeroCells105 105)
  generalize w.alloc (.cells Try.zeroCells105 105) = W0 at h0 hB0 ⊢
  obtain ⟨b, hb⟩ : ∃ b, b = w.heap.size := ⟨_, rfl⟩
  rw [← hb] at h0 ⊢
  have HB := Lib.hid hb
  clear hb
  generalize Try.zeroCells105 = C0 at hz h0 ⊢
  go_wp2_with fail
  go_loopw [6] (fun x wr => ∃ (i : Nat) (C : Array Value), x = .int .i64 i ∧ i ≤ 256 ∧ wr.heap[b]? = some (.cells C 105 (0, 0)) ∧ C.size = 256 ∧ (∀ j, j < i → C[j]? = some (.int .u32 (crN 8 j))) ∧ Below w.heap.size w wr) (fun x _ => 256 - (intOf x).toNat)
  case atStart => exact ⟨0, C0, rfl, by omega, h0, hz, fun j hj => absurd hj (Nat.not_lt_zero _), hB0⟩
  case round =>
    clear h0 hz hB0
    obtain ⟨i, C, rfl, hi, hc, hs, ht, hB⟩ := hrel
    have HT := Lib.hid (And.intro hs ht)
    clear hs ht
    by_cases hlt : i < 256
    · have hil : (i : Int) < 256 := by omega
      have hw32 : IntKind.u32.wrap (i : Int) = i := by rw [IntKind.wrap_u32]; omega
      go_wp2_with fail
      go_loopw [3, 11] (fun x k wr2 => ∃ m : Nat, k = .int .i64 m ∧ x = .int .u32 (crN m i) ∧ m ≤ 8 ∧ wr2 = wr) (fun _ k _ => 8 - (intOf k).toNat)
      case atStart => exact ⟨0, rfl, rfl, by omega, rfl⟩
      case round =>
        obtain ⟨m, rfl, rfl, hm, rfl⟩ := hrel
        by_cases hm8 : m < 8
        · have hml : (m : Int) < 8 := by omega
          have hxl : crN m i < 4294967296 := crN_lt m (by omega)
          have hcb := cr_bits (crN m i) hxl
          have HS := Lib.hid (crN_snoc m i)
          rw [IntKind.wrap_u32] at hcb
          have HCB := Lib.hid hcb
          clear hcb
          generalize crN m i = x at hxl HCB HS ⊢
          go_wp2_with fail
          go_roundw
          case rel => exact ⟨m + 1, by go_num, by rw [HS.out, HCB.out], by omega, by trivial⟩
          case measure => simp [intOf]; omega
        · obtain rfl : m = 8 := by omega
          have hcc : wr.cell? ⟨b, i, none⟩ = some (C[i]'(by rw [HT.out.1]; exact hlt)) := by rw [cell_blk hc, Array.getElem?_eq_getElem]
          have hf := frozen_blk hc i
          go_wp2_with fail
          go_roundw
          case rel =>
            refine ⟨i + 1, C.setIfInBounds i (.int .u32 (crN 8 i)), by go_num, by omega, blk_setCell hc _, by simp [HT.out.1], fun j hj => ?_, bel_set2 hB _ _ (Nat.le_of_eq HB.out.symm)⟩
            rw [Array.getElem?_setIfInBounds]
            by_cases h : i = j
            · rw [if_pos h, h, if_pos (by rw [HT.out.1]; omega)]
            · rw [if_neg h]; exact HT.out.2 j (by omega)
          case measure => simp [intOf]; omega
    · obtain rfl : i = 256 := by omega
      go_wp2_with fail
      go_ret
      exact ⟨by rw [HB.out]; rfl, ⟨C, HB.out ▸ hc, HT.out⟩, hB⟩
theorem IsTab.kept {w w' : World} {b : Nat} (h : IsTab w b) (k : Below w.heap.size w w') : IsTab w' b := by
  obtain ⟨C, h1, h2⟩ := h
  exact ⟨C, (k.block b (blk_lt h1)).trans h1, h2⟩
theorem IsTab.only {S : Nat → Prop} {w w' : World} {b : Nat} (h : IsTab w b) (o : Only S w w') (hn : ¬ S b) : IsTab w' b := by
  obtain ⟨C, h1, h2⟩ := h
  exact ⟨C, o.keeps h1 hn, h2⟩
theorem IsTab.cell {w : World} {b : Nat} (h : IsTab w b) {j : Nat} (hj : j < 256) : w.cell? ⟨b, j, none⟩ = some (.int .u32 (crN 8 j)) := by
  obtain ⟨C, h1, _, h2⟩ := h
  rw [cell_blk h1]
  exact h2 j hj
theorem u8_xor_at (x c : Nat) (hc : c < 256) : bits .xor .u8 ((x : Int) % 256) (c : Int) = ((x % 256 ^^^ c : Nat) : Int) := by
  rw [show ((x : Int) % 256) = ((x % 256 : Nat) : Int) by omega, u8_xor_nat _ _ (by omega) hc]
set_option maxHeartbeats 4000000 in
theorem csum_any (w : World) (tb g : Nat) (s : ByteArray) (hT : IsTab w tb) (hg : w.cell? ⟨g, 0, none⟩ = some (.string s)) (hs : s.size ≤ 140737488355328) :
    Calls Try.prog 74 #[.pointer (some ⟨tb, 0, none⟩), .slice (some ⟨g, 0, none⟩) 1 1] w fun e w' => e = .returned (.int .u32 (crcV s.data.toList)) ∧ ∃ n, w.drewN n = w' := by
  go_enter Try.func74, Try.ntmps74
  go_wp2_with fail
  go_loopw [5, 13] (fun x k wr => ∃ n : Nat, wr = w.drewN n ∧ ((k = .int .i64 0 ∧ x = .int .u32 4294967295) ∨ (k = .int .i64 1 ∧ x = .int .u32 (crcL 4294967295 s.data.toList)))) (fun _ k _ => 1 - (intOf k).toNat)
  case atStart => exact ⟨0, rfl, .inl ⟨rfl, rfl⟩⟩
  case round =>
    obtain ⟨n, rfl, hr⟩ := hrel
    rcases hr with ⟨rfl, rfl⟩ | ⟨rfl, rfl⟩
    · go_wp2_with fail
      go_loopw [5, 8] (fun x k wr2 => ∃ (i m : Nat), k = .int .i64 i ∧ i ≤ s.size ∧ x = .int .u32 (crcL 4294967295 (s.data.toList.take i)) ∧ wr2 = w.drewN m) (fun _ k _ => s.size - (intOf k).toNat)
      case atStart => exact ⟨0, n, rfl, by omega, by simp [crcL], rfl⟩
      case round =>
        obtain ⟨i, m, rfl, hi, rfl, rfl⟩ := hrel
        by_cases hlt : i < s.size
        · have hil : (i : Int) < s.size := by omega
          have hx := crcL_lt (s.data.toList.take i) (x := 4294967295) (by decide)
          have hsn : crcL 4294967295 (s.data.toList.take (i + 1)) = crS (crcL 4294967295 (s.data.toList.take i)) s[i].toNat := by
            rw [List.take_succ_eq_append_getElem (by simpa using hlt), crcL_snoc]
            congr 2
          obtain ⟨c, hc⟩ : ∃ c : Nat, c = s[i].toNat := ⟨_, rfl⟩
          have hcl : c < 256 := by rw [hc]; exact s[i].toNat_lt
          rw [← hc] at hsn
          have hc' : s[i].toNat = c := hc.symm
          generalize crcL 4294967295 (s.data.toList.take i) = x at hx hsn ⊢
          have HS := Lib.hid hsn
          have h8 := u8_xor_at x c hcl
          obtain ⟨j, hj⟩ : ∃ j : Nat, j = x % 256 ^^^ c := ⟨_, rfl⟩
          have hjl : j < 256 := by rw [hj]; exact Nat.xor_lt_two_pow (n := 8) (by omega) (by omega)
          have hcs := crs_bits x j c hx hj hcl
          rw [← hj] at h8
          have hcell := hT.cell hjl
          have HCS := Lib.hid hcs
          have hj0 : (0 : Int) ≤ (j : Int) := by omega
          have hj1 : (j : Int) < 256 := by omega
          clear hsn hj hcs hc
          go_wp2_with fail
          go_quiet (fail)
          go_wp2_with fail
          go_roundw
          case rel => exact ⟨i + 1, _, by go_num, by omega, by rw [HCS.out, HS.out], rfl⟩
          case measure => simp [intOf]; omega
        · obtain rfl : i = s.size := by omega
          have hE := Lib.hid (show s.data.toList.take s.size = s.data.toList from List.take_of_length_le (by simp))
          go_wp2_with fail
          go_roundw
          case rel => exact ⟨_, rfl, .inr ⟨by go_num, by rw [hE.out]⟩⟩
          case measure => simp [intOf]
    · have hx := crcL_lt s.data.toList (x := 4294967295) (by decide)
      have hcv := Lib.hid (show crcV s.data.toList = crcL 4294967295 s.data.toList ^^^ 4294967295 from rfl)
      generalize crcL 4294967295 s.data.toList = x at hx hcv ⊢
      go_wp2_with fail
      go_ret
      refine ⟨ret_int ?_, _, rfl⟩
      have h9 := u32_xor_nat 4294967295 x (by decide) hx
      rw [show IntKind.u32.max = ((4294967295 : Nat) : Int) from by decide, h9, hcv.out, Nat.xor_comm]
theorem rturn_any (s : ByteArray) (x0 : Nat) (hx0 : x0 < 4294967296) (hs : s.size ≤ 140737488355328) (w : World) :
    Calls Try.prog 106 #[.int .u32 x0, .string s] w fun e w' => e = .returned (.int .u32 (crcL x0 s.data.toList)) ∧ ∃ n, w.drewN n = w' := by
  have HX0 := Lib.hid hx0
  clear hx0
  go_enter Try.func106, Try.ntmps106
  go_wp2_with fail
  go_loopw [0, 5] (fun x k wr => ∃ (i m : Nat), k = .int .i64 i ∧ i ≤ s.size ∧ x = .int .u32 (crcL x0 (s.data.toList.take i)) ∧ wr = w.drewN m) (fun _ k _ => s.size - (intOf k).toNat)
  case atStart => exact ⟨0, 0, rfl, by omega, by simp [crcL], rfl⟩
  case round =>
    obtain ⟨i, m, rfl, hi, rfl, rfl⟩ := hrel
    by_cases hlt : i < s.size
    · have hil : (i : Int) < s.size := by omega
      have hx := crcL_lt (s.data.toList.take i) HX0.out
      have hsn : crcL x0 (s.data.toList.take (i + 1)) = crS (crcL x0 (s.data.toList.take i)) s[i].toNat := by
        rw [List.take_succ_eq_append_getElem (by simpa using hlt), crcL_snoc]
        congr 2
      obtain ⟨c, hc⟩ : ∃ c : Nat, c = s[i].toNat := ⟨_, rfl⟩
      have hcl : c < 256 := by rw [hc]; exact s[i].toNat_lt
      rw [← hc] at hsn
      have hc' : s[i].toNat = c := hc.symm
      generalize crcL x0 (s.data.toList.take i) = x at hx hsn ⊢
      have h32 := u32_xor_nat x c hx (by omega)
      obtain ⟨y, hy⟩ : ∃ y : Nat, y = x ^^^ c := ⟨_, rfl⟩
      have hyl : y < 4294967296 := by rw [hy]; exact Nat.xor_lt_two_pow (n := 32) hx (by omega)
      have HS := Lib.hid (show crcL x0 (s.data.toList.take (i + 1)) = crN 8 y by rw [hsn, hy]; rfl)
      rw [← hy] at h32
      clear hsn hy hc
      go_wp2_with fail
      go_loopw [0, 6] (fun x k wr2 => ∃ (j m : Nat), k = .int .i64 j ∧ j ≤ 8 ∧ x = .int .u32 (crN j y) ∧ wr2 = w.drewN m) (fun _ k _ => 8 - (intOf k).toNat)
      case atStart => exact ⟨0, m, rfl, by omega, rfl, rfl⟩
      case round =>
        obtain ⟨j, m2, rfl, hj, rfl, rfl⟩ := hrel
        by_cases hj8 : j < 8
        · have hjl : (j : Int) < 8 := by omega
          have hzl : crN j y < 4294967296 := crN_lt j hyl
          have HN := Lib.hid (crN_snoc j y)
          generalize crN j y = z at hzl HN ⊢
          by_cases par : z % 2 = 1
          · have pa : ((z : Int) % 2 == 1) = true := by simp; omega
            have hq := u32_xor_nat (z / 2) 3988292384 (by omega) (by decide)
            have HQ := Lib.hid hq
            have HP := Lib.hid (show cr z = z / 2 ^^^ 3988292384 by unfold cr; rw [if_pos par])
            clear hq par
            go_wp2_with fail
            go_roundw
            case rel => exact ⟨j + 1, _, by go_num, by omega, by rw [HN.out, HP.out, ← HQ.out]; congr 2, rfl⟩
            case measure => simp [intOf]; omega
          · have pa : ((z : Int) % 2 == 1) = false := by simp; omega
            have HP := Lib.hid (show cr z = z / 2 by unfold cr; rw [if_neg par, Nat.xor_zero])
            clear par
            go_wp2_with fail
            go_roundw
            case rel => exact ⟨j + 1, _, by go_num, by omega, by rw [HN.out, HP.out]; congr 1, rfl⟩
            case measure => simp [intOf]; omega
        · obtain rfl : j = 8 := by omega
          go_wp2_with fail
          go_roundw
          case rel => exact ⟨i + 1, _, by go_num, by omega, by rw [HS.out], rfl⟩
          case measure => simp [intOf]; omega
    · obtain rfl : i = s.size := by omega
      have hE := Lib.hid (show s.data.toList.take s.size = s.data.toList from List.take_of_length_le (by simp))
      go_wp2_with fail
      go_ret
      exact ⟨by rw [hE.out]; rfl, _, rfl⟩
theorem rsum_any (s : ByteArray) (hs : s.size ≤ 140737488355328) (w : World) :
    Calls Try.prog 91 #[.string s] w fun e w' => e = .returned (.int .u32 (crcV s.data.toList)) ∧ ∃ n, w.drewN n = w' := by
  have ht := rturn_any s 4294967295 (by decide) hs w
  have hx := crcL_lt s.data.toList (x := 4294967295) (by decide)
  have hcv := Lib.hid (show crcV s.data.toList = crcL 4294967295 s.data.toList ^^^ 4294967295 from rfl)
  generalize crcL 4294967295 s.data.toList = x at hx hcv ht
  go_enter Try.func91, Try.ntmps91
  go_wp2_with fail
  refine ht.mono ?_
  rintro e w1 ⟨rfl, n, rfl⟩
  go_wp2_with fail
  go_ret
  have h9 := u32_xor_nat x 4294967295 hx (by decide)
  exact ⟨ret_int (by rw [hcv.out]; exact h9), _, rfl⟩
end Go.Proofs.Ytbfipgeoecbpaaa
/- A builder's copyCheck, WriteString, String, kept to its own address. No condition but those that each names. -/
namespace Go.Proofs.Ytbfipgeoecbpaaa
open Go.RowKit
set_option maxRecDepth 100000
theorem copyCheck_used {B b : Nat} {bs : List Value} {w : World} (h : Lib.BuilderAtF 187 5 B b (.pointer (some ⟨b, 0, none⟩)) bs w) :
    Calls Try.prog 132 #[.pointer (some ⟨b, 0, none⟩)] w fun e w' => e = .returned (.tuple #[]) ∧ w = w' := by
  have c0 := h.cell0
  go_enter Try.func132, Try.ntmps132
  go_wp2
  rw [Lib.run_neq_ptr_same w _ Try.underlying185 ((Option.some_get (by kernel_rfl : (Try.prog.info? 187).isSome = true)).symm)]
  go_wp2
  go_end0
  exact ⟨rfl, rfl⟩
set_option maxHeartbeats 1000000 in
theorem bstr_any {B b : Nat} {bs : List Value} {w : World} (h : Lib.BuilderAtF 187 5 B b (.pointer (some ⟨b, 0, none⟩)) bs w) (s : ByteArray) (hlen : bs.length + s.size ≤ 140737488355328) (hBw : B ≤ w.heap.size) :
    Calls Try.prog 118 #[.pointer (some ⟨b, 0, none⟩), .string s] w fun e w' => e = .returned (.tuple #[.int .i64 s.size, .nilIface]) ∧ (Lib.BuilderAtF 187 5 B b (.pointer (some ⟨b, 0, none⟩)) (bs ++ Lib.strCells s) w' ∧ Below B w w') := by
  have hcc := copyCheck_used h
  obtain ⟨hB, v, hbk, hown, hne⟩ := h
  obtain ⟨i0, hi, hz0, hz1, hz2⟩ := info_parts info_u8
  have c1 : w.cell? ⟨b, 1, none⟩ = some v := by rw [cell_blk hbk]; rfl
  have hlt := blk_lt hbk
  go_enter Try.func118, Try.ntmps118
  go_wp2_with fail
  refine hcc.mono ?_
  rintro e w1 ⟨rfl, rfl⟩
  go_wp2_with (at_builtin; (refine Lib.wpList_append_own_stringF _ rfl _ _ 97 9 rfl B 5 i0 ul_bytes ul_string hi hz0 hz1 hz2 v _ _ rfl hown s rfl (by unfold maxLen; omega) hlen hBw ?_); intro v' w2 hown' hg hnil; have hb2 := (hg.block b hlt (fun x => hne x.symm)).trans hbk; have d1 : w2.cell? ⟨b, 1, none⟩ = some v := (by rw [cell_blk hb2]; rfl); have f1 := frozen_blk hb2 1; obtain ⟨ao, n', cap, rfl⟩ : ∃ ao n' cap, v' = .slice ao n' cap := (by rcases hown'.2 with ⟨hv, _⟩ | ⟨g, cap, cur, fz, hv, _⟩; exact ⟨_, _, _, hv⟩; exact ⟨_, _, _, hv⟩))
  go_ret2
  refine ⟨rfl, ?_, ?_⟩
  · exact Lib.BuilderAtF.put (T := 187) (e := 5) hB hb2 (bs' := bs ++ Lib.strCells s) (by simpa [Lib.strCells_length] using hown') (by decide)
  · exact ((Below.refl B w).grown hg hBw (fun k hk => (hown.lt k hk).1)).setCell (p := ⟨b, 1, none⟩) hB _
set_option maxHeartbeats 2000000 in
theorem bString_any {B b : Nat} {l : List UInt8} {w : World} (h : Lib.BuilderAtF 187 5 B b (.pointer (some ⟨b, 0, none⟩)) (Lib.byteCells l) w) (h0 : l ≠ []) :
    Calls Try.prog 120 #[.pointer (some ⟨b, 0, none⟩)] w fun e w' => e = .returned (.string ⟨l.toArray⟩) ∧ (Lib.BuilderAtF 187 5 B b (.pointer (some ⟨b, 0, none⟩)) (Lib.byteCells l) w' ∧ Below B w w') := by
  have hAt := h
  obtain ⟨hB, v, hbk, hown, hne⟩ := h
  have hl0 : l.length ≠ 0 := by simpa using h0
  rw [Lib.byteCells_length] at hown
  have hform : ∃ g cap cur fz, v = .slice (some ⟨g, 0, none⟩) l.length cap ∧ B ≤ g ∧ w.heap[g]? = some (.cells cur 5 fz) ∧ l.length ≤ cap ∧ cap ≤ maxLen ∧ cur.size = cap * 1 := by
    rcases hown.2 with ⟨_, hz⟩ | ⟨g, cap, cur, fz, hv, r1, r2, r3, r4, r5, r6, _⟩
    · exact absurd hz hl0
    · exact ⟨g, cap, cur, fz, hv, r1, r2, by omega, by omega, by omega⟩
  obtain ⟨g, cap, cur, fz, rfl, hbg, hg, hnc, hcm, hcs⟩ := hform
  have c1 : w.drew.cell? ⟨b, 1, none⟩ = some (.slice (some ⟨g, 0, none⟩) l.length cap) := by
    have : w.drew.heap[b]? = some (.cells #[.pointer (some ⟨b, 0, none⟩), .slice (some ⟨g, 0, none⟩) l.length cap] 187 (0, 0)) := hbk
    rw [cell_blk this]; rfl
  have hSD : (Builtin.unsafeSliceData_ #[97] 208 #[.slice (some ⟨g, 0, none⟩) l.length cap]).run Try.prog w.drew = .ok (.pointer (some ⟨g, 0, none⟩)) w.drew :=
    Lib.run_unsafeSliceData_row _ _ _ _ _ _ (by omega)
  have hcb : Try.prog.cellsOf 5 = 1 := by kernel_rfl
  have hUS : (Builtin.unsafeString_ #[208, 3] 9 #[.pointer (some ⟨g, 0, none⟩), .int .i64 l.length]).run Try.prog w.drew = .ok (.string ⟨l.toArray⟩) (w.drew.freeze ⟨g, 0, none⟩ l.length) := by
    refine Lib.run_unsafeString_row w.drew 208 3 9 5 Try.underlying208 hcb g cur.size (by have hg' : w.drew.heap[g]? = some (.cells cur 5 fz) := hg; simp [World.shape?, hg']) l h0 (by omega) (by unfold maxLen at hcm; omega) ?_
    intro j x hx
    exact hown.cells (g := g) rfl j (.int .u8 x.toNat) (by simp [Lib.byteCells, hx])
  have hfz : Lib.BuilderAtF 187 5 B b (.pointer (some ⟨b, 0, none⟩)) (Lib.byteCells l) (w.drew.freeze ⟨g, 0, none⟩ l.length) := by
    have := (hAt.drew).froze (g := g) (cap := cap) (by rw [Lib.byteCells_length]; exact c1)
    rw [Lib.byteCells_length] at this
    exact this
  have hbel := Lib.below_freeze (Below.drew (Below.refl B w)) (p := ⟨g, 0, none⟩) hbg l.length
  clear hAt hown hbk hne hg
  have mixed : Try.prog.follows .mixedOrders = true := by kernel_rfl
  go_enter Try.func120, Try.ntmps120
  go_wp2
  go_region_o
  all_goals (go_wp2; go_ret; exact ⟨rfl, hfz, hbel⟩)
end Go.Proofs.Ytbfipgeoecbpaaa
/- The marker: strings.Repeat at 16 bytes 255, by the builder's contracts. No condition. -/
namespace Go.Proofs.Ytbfipgeoecbpaaa
open Go.RowKit
set_option maxRecDepth 100000
theorem bs_rep (m n : Nat) : Lib.byteCells (List.replicate m (255 : UInt8)) ++ Lib.strCells ⟨(List.replicate n (255 : UInt8)).toArray⟩ = Lib.byteCells (List.replicate (m + n) 255) := by
  simp [Lib.byteCells, Lib.strCells, List.replicate_append_replicate]
set_option maxHeartbeats 2000000 in
theorem repeat_any (w : World) : Calls Try.prog 98 #[.string ⟨#[255]⟩, .int .i64 16] w fun e w' => e = .returned (.string ⟨(List.replicate 16 (255 : UInt8)).toArray⟩) ∧ Below w.heap.size w w' := by
  have hg := Try.Builder_Grow_fresh w.heap.size w.heap.size 16 (w.alloc (.cells #[.pointer none, .slice none 0 0] 187)) (Nat.le_refl _) (heap_alloc_new w _) (by simp) (by decide)
  have hml : Calls Try.prog 115 #[.int .u64 1, .int .u64 16] w fun e w' => e = .returned (.tuple #[.int .u64 0, .int .u64 16]) ∧ w' = w := Try.bits_Mul 1 16 (by decide) (by decide) w
  have hB0 := (Below.refl w.heap.size w).alloc (Nat.le_refl _) (.cells #[.pointer none, .slice none 0 0] 187)
  go_enter Try.func98, Try.ntmps98
  go_wp2_with fail
  refine hml.mono ?_
  rintro x w1 ⟨rfl, rfl⟩
  clear hml
  go_wp2_with fail
  refine hg.mono ?_
  rintro x w2 ⟨rfl, hb2, hk2⟩
  have hB2 := hB0.trans hk2
  have hz := hB2.size
  clear hg hk2 hB0
  go_wp2_with fail
  refine (bstr_any (.of hb2) ⟨#[255]⟩ (by decide) hz).mono ?_
  rintro x w3 ⟨rfl, hb3, hk3⟩
  have hb3' : Lib.BuilderAtF 187 5 w1.heap.size w1.heap.size (.pointer (some ⟨w1.heap.size, 0, none⟩)) (Lib.byteCells (List.replicate 1 (255 : UInt8))) w3 := hb3
  have hB3 := hB2.trans hk3
  clear hb2 hk3 hB2 hz hb3
  go_wp2_with fail
  go_loopg [] 4 (fun k wr => ∃ m, ((k = 4 ∧ m = 1) ∨ (k = 3 ∧ m = 2) ∨ (k = 2 ∧ m = 4) ∨ (k = 1 ∧ m = 8) ∨ (k = 0 ∧ m = 16)) ∧ Lib.BuilderAtF 187 5 w1.heap.size w1.heap.size (.pointer (some ⟨w1.heap.size, 0, none⟩)) (Lib.byteCells (List.replicate m (255 : UInt8))) wr ∧ Below w1.heap.size w1 wr)
  case atStart => exact ⟨1, .inl ⟨rfl, rfl⟩, hb3', hB3⟩
  case round =>
    clear hb3' hB3
    obtain ⟨m, hm, hb, hB⟩ := hrel
    have hlen := Any.Builder_Len_f Try.lays170 w1.heap.size w1.heap.size _ wr (Or.inr hb)
    have hz := hB.size
    rcases hm with ⟨rfl, rfl⟩ | ⟨rfl, rfl⟩ | ⟨rfl, rfl⟩ | ⟨rfl, rfl⟩ | ⟨rfl, rfl⟩
    all_goals simp only [Lib.byteCells_length, List.length_replicate] at hlen
    · go_wp2_with (go_at_call 119; (refine hlen.mono ?_); rintro x0 w5 ⟨rfl, rfl⟩)
      refine (bString_any hb (by decide)).mono ?_
      rintro x0 w6 ⟨rfl, hb6, hk6⟩
      have hB6 := hB.trans hk6
      have hz6 := hB6.size
      have hx : (⟨(List.replicate 1 (255 : UInt8)).toArray⟩ : ByteArray).extract 0 1 = ⟨(List.replicate 1 (255 : UInt8)).toArray⟩ := by decide +kernel
      have hw := bstr_any hb6 ⟨(List.replicate 1 (255 : UInt8)).toArray⟩ (by rw [Lib.byteCells_length]; decide) hz6
      rw [bs_rep] at hw
      have hs : ((⟨(List.replicate 1 (255 : UInt8)).toArray⟩ : ByteArray).size) = 1 := by decide +kernel
      clear hb hlen hz hb6 hk6 hB hz6
      go_wp2_with fail
      refine hw.mono ?_
      rintro x0 w7 ⟨rfl, hb7, hk7⟩
      have hB7 := hB6.trans hk7
      go_wp2_with fail
      go_roundg 3
      case measure => omega
      case rel => exact ⟨2, by omega, hb7, hB7⟩
    · go_wp2_with (go_at_call 119; (refine hlen.mono ?_); rintro x0 w5 ⟨rfl, rfl⟩)
      refine (bString_any hb (by decide)).mono ?_
      rintro x0 w6 ⟨rfl, hb6, hk6⟩
      have hB6 := hB.trans hk6
      have hz6 := hB6.size
      have hx : (⟨(List.replicate 2 (255 : UInt8)).toArray⟩ : ByteArray).extract 0 2 = ⟨(List.replicate 2 (255 : UInt8)).toArray⟩ := by decide +kernel
      have hw := bstr_any hb6 ⟨(List.replicate 2 (255 : UInt8)).toArray⟩ (by rw [Lib.byteCells_length]; decide) hz6
      rw [bs_rep] at hw
      have hs : ((⟨(List.replicate 2 (255 : UInt8)).toArray⟩ : ByteArray).size) = 2 := by decide +kernel
      clear hb hlen hz hb6 hk6 hB hz6
      go_wp2_with fail
      refine hw.mono ?_
      rintro x0 w7 ⟨rfl, hb7, hk7⟩
      have hB7 := hB6.trans hk7
      go_wp2_with fail
      go_roundg 2
      case measure => omega
      case rel => exact ⟨4, by omega, hb7, hB7⟩
    · go_wp2_with (go_at_call 119; (refine hlen.mono ?_); rintro x0 w5 ⟨rfl, rfl⟩)
      refine (bString_any hb (by decide)).mono ?_
      rintro x0 w6 ⟨rfl, hb6, hk6⟩
      have hB6 := hB.trans hk6
      have hz6 := hB6.size
      have hx : (⟨(List.replicate 4 (255 : UInt8)).toArray⟩ : ByteArray).extract 0 4 = ⟨(List.replicate 4 (255 : UInt8)).toArray⟩ := by decide +kernel
      have hw := bstr_any hb6 ⟨(List.replicate 4 (255 : UInt8)).toArray⟩ (by rw [Lib.byteCells_length]; decide) hz6
      rw [bs_rep] at hw
      have hs : ((⟨(List.replicate 4 (255 : UInt8)).toArray⟩ : ByteArray).size) = 4 := by decide +kernel
      clear hb hlen hz hb6 hk6 hB hz6
      go_wp2_with fail
      refine hw.mono ?_
      rintro x0 w7 ⟨rfl, hb7, hk7⟩
      have hB7 := hB6.trans hk7
      go_wp2_with fail
      go_roundg 1
      case measure => omega
      case rel => exact ⟨8, by omega, hb7, hB7⟩
    · go_wp2_with (go_at_call 119; (refine hlen.mono ?_); rintro x0 w5 ⟨rfl, rfl⟩)
      refine (bString_any hb (by decide)).mono ?_
      rintro x0 w6 ⟨rfl, hb6, hk6⟩
      have hB6 := hB.trans hk6
      have hz6 := hB6.size
      have hx : (⟨(List.replicate 8 (255 : UInt8)).toArray⟩ : ByteArray).extract 0 8 = ⟨(List.replicate 8 (255 : UInt8)).toArray⟩ := by decide +kernel
      have hw := bstr_any hb6 ⟨(List.replicate 8 (255 : UInt8)).toArray⟩ (by rw [Lib.byteCells_length]; decide) hz6
      rw [bs_rep] at hw
      have hs : ((⟨(List.replicate 8 (255 : UInt8)).toArray⟩ : ByteArray).size) = 8 := by decide +kernel
      clear hb hlen hz hb6 hk6 hB hz6
      go_wp2_with fail
      refine hw.mono ?_
      rintro x0 w7 ⟨rfl, hb7, hk7⟩
      have hB7 := hB6.trans hk7
      go_wp2_with fail
      go_roundg 0
      case measure => omega
      case rel => exact ⟨16, by omega, hb7, hB7⟩
    · go_wp2_with (go_at_call 119; (refine hlen.mono ?_); rintro x0 w5 ⟨rfl, rfl⟩)
      refine (bString_any hb (by decide)).mono ?_
      rintro x0 w6 ⟨rfl, hb6, hk6⟩
      have hB6 := hB.trans hk6
      go_wp2_with fail
      go_ret
      exact ⟨rfl, hB6⟩
theorem marker_any (w : World) : Calls Try.prog 71 #[] w fun e w' => e = .returned (.string ⟨(List.replicate 16 (255 : UInt8) ++ [84, 65, 70, 82, 73, 76]).toArray⟩) ∧ Below w.heap.size w w' := by
  have hr := repeat_any w
  go_enter Try.func71, Try.ntmps71
  go_wp2_with fail
  refine hr.mono ?_
  rintro x w1 ⟨rfl, hk⟩
  have hsz : (⟨(List.replicate 16 (255 : UInt8)).toArray⟩ : ByteArray).size = 16 := by decide +kernel
  go_wp2_with fail
  go_ret
  exact ⟨rfl, hk⟩
end Go.Proofs.Ytbfipgeoecbpaaa
