/- The walk of CursorWrites. -/
import Derived.Test.YtedbbmopckbfbaaW1
import Derived.Test.YtedbbmopckbfbaaSl
import Derived.Laws.IdiomStrings
namespace Go.Proofs.Ytedbbmopckbfbaa
open Go.RowKit
set_option maxRecDepth 20000
def cost (z : Nat → ByteArray) : Nat → Nat
  | 0 => 0
  | i + 1 => cost z i + min (z i).size 65536
def catZ (z : Nat → ByteArray) : Nat → ByteArray
  | 0 => ⟨#[]⟩
  | i + 1 => catZ z i ++ z i
theorem cost_le (z : Nat → ByteArray) : ∀ i, cost z i ≤ 65536 * i
  | 0 => Nat.le_refl _
  | i + 1 => by have := cost_le z i; simp only [cost]; omega
theorem cost_mono (z : Nat → ByteArray) {i : Nat} : ∀ {j : Nat}, i ≤ j → cost z i ≤ cost z j
  | 0, h => by obtain rfl : i = 0 := by omega
               exact Nat.le_refl _
  | j + 1, h => by
    rcases Nat.lt_or_ge j i with h1 | h1
    · obtain rfl : i = j + 1 := by omega
      exact Nat.le_refl _
    · have := cost_mono z h1; simp only [cost]; omega
theorem cat_size (z : Nat → ByteArray) : ∀ i, cost z i ≤ 2000 → (catZ z i).size = cost z i
  | 0, _ => rfl
  | i + 1, h => by
    simp only [cost] at h ⊢
    have := cat_size z i (by omega)
    simp only [catZ, ByteArray.size_append]; omega
theorem cat_list (A s : ByteArray) : A.data.toList ++ s.data.toList = (A ++ s).data.toList := by rw [ByteArray.data_append, Array.toList_append]
theorem string_cat {w : World} {b : Nat} {R : Nat → Prop} {A : ByteArray} (h : IsWr w b R A.data.toList) :
    Calls Try.prog 22 #[.pointer (some ⟨b, 0, none⟩)] w fun e w' => e = .returned (.string A) ∧ ∃ n, w.drewN n = w' := string_any h
theorem len_cat {w : World} {b : Nat} {R : Nat → Prop} {A : ByteArray} (h : IsWr w b R A.data.toList) :
    Calls Try.prog 39 #[.pointer (some ⟨b, 0, none⟩)] w fun e w' => e = .returned (.int .i64 A.size) ∧ ∃ n, w.drewN n = w' := by
  have := len_any h
  simpa using this
theorem text_cat {w : World} {b : Nat} {R : Nat → Prop} {A : ByteArray} (h : IsWr w b R A.data.toList) (s : ByteArray) (hlen : A.size + s.size ≤ 140737488355328) :
    Calls Try.prog 45 #[.pointer (some ⟨b, 0, none⟩), .string s] w fun e w' => e = .returned (.tuple #[]) ∧ WrPost w b R (A ++ s).data.toList w' := by
  rw [← cat_list]; exact text_any h s (by simpa using hlen)
theorem put_conv {w : World} {b : Nat} {R : Nat → Prop} {A : ByteArray} (h : IsWr w b R A.data.toList) (s : ByteArray) (hlen : A.size + s.size ≤ 140737488355328) (c : Nat) (p : Nat × Nat) :
    Calls Try.prog 50 #[.pointer (some ⟨b, 0, none⟩), .slice (some ⟨w.heap.size, 0, none⟩) s.size c] (w.alloc (.cells (bytesRow s c) 5 p)).drew fun e w' => e = .returned (.tuple #[]) ∧ WrPost w b R (A ++ s).data.toList w' := by
  show Calls _ _ _ (w.drew.alloc (.cells (bytesRow s c) 5 p)) _
  rw [← cat_list]
  have hl : s.data.toList.length = s.size := by simp
  refine (put_any (w := w.drew.alloc (.cells (bytesRow s c) 5 p)) ((h.drewN 1).alloc _) _ s.data.toList ?_ (by simpa using hlen)).mono ?_
  · refine .inr ⟨⟨w.heap.size, 0, none⟩, c, by rw [hl], fun j u hj => ?_⟩
    have hj2 : j < s.data.size := by
      have := (List.getElem?_eq_some_iff.1 hj).1
      simpa [bv] using this
    rw [Addr.add_lit, cell_blk (show (w.drew.alloc (.cells (bytesRow s c) 5 p)).heap[w.heap.size]? = _ from heap_alloc_new w.drew _)]
    have e := bytesRow_at s c j hj2
    simp only [bv, List.getElem?_map, Array.getElem?_toList, Array.getElem?_eq_getElem hj2, Option.map_some, Option.some.injEq] at hj
    rw [← hj]
    simpa using e
  · rintro e w' ⟨rfl, hw⟩
    refine ⟨rfl, hw.1.mono fun i hi => ?_, (((Only.refl (fun k => k = b ∨ R k) w).drewN 1).alloc _).trans hw.2 fun i _ hs => hs⟩
    rcases hi with hi | hi
    · exact .inl hi
    · exact .inr (by simp [World.alloc] at hi; omega)
set_option maxHeartbeats 2000000 in
theorem cursorWrites_law (oa : Option Addr) (len cap : Nat) (z : Nat → ByteArray) (oa2 : Option Addr) (len2 cap2 : Nat) (z2 : Nat → Bool) (w : World) (hsl : SlArg w oa len cap (fun i => .string (z i))) (hr : cap * 16 ≤ 140737488351232) (hz : ∀ i, i < len → (z i).size ≤ maxLen)
    (hsl2 : SlArg w oa2 len2 cap2 (fun i => .bool (z2 i))) (hr2 : cap2 * 1 ≤ 140737488351232) (m : Int) (hm : ML w m) :
    Calls Try.prog 17 #[.slice oa len cap, .slice oa2 len2 cap2] w fun e w' => e = .returned (.bool true) ∧ Below w.heap.size w w' := by
  unfold maxLen at hz
  have hB := Below.refl w.heap.size w
  have hlc := hsl.1
  have hlc2 := hsl2.1
  have hll : len ≤ 8796093021952 := by omega
  have hll2 : len2 ≤ 140737488351232 := by omega
  clear hr hr2 hlc hlc2
  go_enter Try.func17, Try.ntmps17
  go_wp2
  go_loop [5, 16] (fun n x => ∃ i : Nat, n = .int .i64 ((len + cost z i : Nat) : Int) ∧ x = .int .i64 i ∧ i ≤ len) (fun _ x => len - (intOf x).toNat)
  case atStart => exact ⟨0, rfl, rfl, by omega⟩
  case round =>
    obtain ⟨i, rfl, rfl, hi⟩ := hrel
    by_cases hlt : i < len
    · obtain ⟨g, off, rfl, hg, hc⟩ := hsl.2.2 i hlt
      have hlt' : (i : Int) < len := by omega
      have hzi := hz i hlt
      have hcb := cost_le z i
      go_wp2
      go_round
      case rel => exact ⟨i + 1, by congr 1; simp only [cost]; omega, by go_num, by omega⟩
      case measure => simp [intOf]; omega
    · obtain rfl : i = len := by omega
      have hcb := cost_le z i
      by_cases hn : i + cost z i ≤ 2000
      · have hn1 : decide ((2000 : Int) < ((i + cost z i : Nat) : Int)) = false := by simp; omega
        have hcs := cat_size z i (by omega)
        have hmono := fun j (hj : j ≤ i) => cost_mono z hj
        go_wp2_with (first | (go_at_call 48; (with_reducible refine (awake1 _ m hm).mono ?_); rintro e w5 ⟨rfl, hk⟩; have hB2 := bel_start hB hk; clear hk hB; have hB := hB2; clear hB2))
        have hW := (IsWr.fresh w5).mono (R' := fun k => w.heap.size ≤ k) (fun _ h => h.elim)
        have hsz := hB.size
        have hB2 := hB.alloc hsz (.cells #[.slice none 0 0] 25)
        clear hB
        have hB := hB2
        clear hB2
        obtain ⟨b, hb⟩ : ∃ b, b = w5.heap.size := ⟨_, rfl⟩
        rw [← hb] at hW hsz ⊢
        have Hb := Lib.hid hb
        clear hb
        generalize w5.alloc (.cells #[.slice none 0 0] 25) = w7 at hW hB ⊢
        clear hn1
        go_loopw [9, 35] (fun a x wr => ∃ (k : Nat), a = .string (catZ z k) ∧ x = .int .i64 k ∧ k ≤ i ∧ IsWr wr b (fun k => w.heap.size ≤ k) (catZ z k).data.toList ∧ Below w.heap.size w wr) (fun _ x _ => i - (intOf x).toNat)
        case atStart => exact ⟨0, rfl, rfl, by omega, hW, hB⟩
        case round =>
          clear hW hB
          obtain ⟨k, rfl, rfl, hk, hW, hB⟩ := hrel
          have hx := hB.size
          by_cases hlt : k < i
          · obtain ⟨g, off, rfl, hg, hc⟩ := hsl.below hB (Nat.le_refl _) hlt
            have hlt' : (k : Int) < i := by omega
            have hm1 := hmono (k + 1) hlt
            have hm2 := hmono k (by omega)
            have hs1 := cat_size z k (by omega)
            have hs2 := cat_size z (k + 1) (by omega)
            have hs3 : (catZ z k).size + (z k).size ≤ 2000 := by
              rw [← ByteArray.size_append]
              show (catZ z (k + 1)).size ≤ 2000
              omega
            have hcv := fun x : World => run_bytes_of_string (P := Try.prog) x 9 23 5 (z k) ul_string ul_bytes (by kernel_rfl)
            by_cases hlt2 : k < len2
            · obtain ⟨g2, off2, rfl, hg2, hc2⟩ := hsl2.below hB (Nat.le_refl _) hlt2
              have hlt2' : (k : Int) < len2 := by omega
              cases hb2 : z2 k
              · simp only [hb2] at hc2
                go_wp2_with fail
                refine (put_conv hW (z k) (by omega) _ _).mono ?_
                rintro e w8 ⟨rfl, hq⟩
                have hB2 := bel_wr hB hq hsz (fun _ h => h) hx
                have hW2 := hq.1
                have hx2 := hB2.size
                clear hB hW hc hc2
                have hW := hW2.mono (R' := fun k => w.heap.size ≤ k) (fun j h => by rcases h with h | h; exact h; omega)
                clear hW2 hq
                have hB := hB2
                clear hB2
                go_wp2_with (first | (go_at_call 39; (with_reducible refine (len_cat hW).mono ?_); rintro e w4 ⟨rfl, hn4⟩; have hB2 := bel_ex hB hn4; have hW2 := hW.ex hn4; clear hB hW; have hB := hB2; have hW := hW2; clear hB2 hW2 hn4) | (go_at_call 22; (with_reducible refine (string_cat hW).mono ?_); rintro e w4 ⟨rfl, hn4⟩; have hB2 := bel_ex hB hn4; have hW2 := hW.ex hn4; clear hB hW; have hB := hB2; have hW := hW2; clear hB2 hW2 hn4))
                go_roundw
                case rel => exact ⟨k + 1, rfl, by go_num, by omega, hW, hB⟩
                case measure => simp [intOf]; omega
              · simp only [hb2] at hc2
                go_wp2_with fail
                refine (text_cat hW (z k) (by omega)).mono ?_
                rintro e w8 ⟨rfl, hq⟩
                have hB2 := bel_wr hB hq hsz (fun _ h => h) hx
                have hW2 := hq.1
                have hx2 := hB2.size
                clear hB hW hc hc2
                have hW := hW2.mono (R' := fun k => w.heap.size ≤ k) (fun j h => by rcases h with h | h; exact h; omega)
                clear hW2 hq
                have hB := hB2
                clear hB2
                go_wp2_with (first | (go_at_call 39; (with_reducible refine (len_cat hW).mono ?_); rintro e w4 ⟨rfl, hn4⟩; have hB2 := bel_ex hB hn4; have hW2 := hW.ex hn4; clear hB hW; have hB := hB2; have hW := hW2; clear hB2 hW2 hn4) | (go_at_call 22; (with_reducible refine (string_cat hW).mono ?_); rintro e w4 ⟨rfl, hn4⟩; have hB2 := bel_ex hB hn4; have hW2 := hW.ex hn4; clear hB hW; have hB := hB2; have hW := hW2; clear hB2 hW2 hn4))
                go_roundw
                case rel => exact ⟨k + 1, rfl, by go_num, by omega, hW, hB⟩
                case measure => simp [intOf]; omega
            · have hlt2' : (len2 : Int) ≤ k := by omega
              go_wp2_with fail
              refine (put_conv hW (z k) (by omega) _ _).mono ?_
              rintro e w8 ⟨rfl, hq⟩
              have hB2 := bel_wr hB hq hsz (fun _ h => h) hx
              have hW2 := hq.1
              have hx2 := hB2.size
              clear hB hW hc
              have hW := hW2.mono (R' := fun k => w.heap.size ≤ k) (fun j h => by rcases h with h | h; exact h; omega)
              clear hW2 hq
              have hB := hB2
              clear hB2
              go_wp2_with (first | (go_at_call 39; (with_reducible refine (len_cat hW).mono ?_); rintro e w4 ⟨rfl, hn4⟩; have hB2 := bel_ex hB hn4; have hW2 := hW.ex hn4; clear hB hW; have hB := hB2; have hW := hW2; clear hB2 hW2 hn4) | (go_at_call 22; (with_reducible refine (string_cat hW).mono ?_); rintro e w4 ⟨rfl, hn4⟩; have hB2 := bel_ex hB hn4; have hW2 := hW.ex hn4; clear hB hW; have hB := hB2; have hW := hW2; clear hB2 hW2 hn4))
              go_roundw
              case rel => exact ⟨k + 1, rfl, by go_num, by omega, hW, hB⟩
              case measure => simp [intOf]; omega
          · obtain rfl : k = i := by omega
            go_wp2_with (first | (go_at_call 22; (with_reducible refine (string_cat hW).mono ?_); rintro e w4 ⟨rfl, hn4⟩; have hB2 := bel_ex hB hn4; have hW2 := hW.ex hn4; clear hB hW; have hB := hB2; have hW := hW2; clear hB2 hW2 hn4))
            go_ret
            exact ⟨rfl, hB⟩
      · have hn1 : (2000 : Int) < ((i + cost z i : Nat) : Int) := by omega
        go_wp2_with (first | (go_at_call 48; (with_reducible refine (awake1 _ m (hm.below hB (Nat.le_refl _))).mono ?_); rintro e w5 ⟨rfl, hk⟩; have hB2 := bel_start hB hk; clear hk hB; have hB := hB2; clear hB2))
        go_ret
        exact ⟨rfl, hB⟩
end Go.Proofs.Ytedbbmopckbfbaa
