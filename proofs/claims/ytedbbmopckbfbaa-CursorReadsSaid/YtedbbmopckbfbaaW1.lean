/- The walks of the statements of layer 1. -/
import Derived.Test.YtedbbmopckbfbaaCurF
import Derived.Deep.DeepMust
namespace Go.Proofs.Ytedbbmopckbfbaa
open Go.RowKit
set_option maxRecDepth 20000
/-- The library's own variable MaxLen holds some int. -/
def ML (w : World) (m : Int) : Prop := w.cell? ⟨0, 0, none⟩ = some (.int .i64 m)
theorem ML.below {w w' : World} {m : Int} {B : Nat} (h : ML w m) (k : Below B w w') (hB : w.heap.size ≤ B) : ML w' m :=
  (k.cell (p := ⟨0, 0, none⟩) (Nat.lt_of_lt_of_le (World.block_lt_of_cell? w _ h) hB)).trans h
theorem bel_ex {B : Nat} {w x y : World} (h : Below B w x) (k : ∃ n, x.drewN n = y) : Below B w y := by
  obtain ⟨n, rfl⟩ := k
  exact below_drewN h n
theorem IsWr.ex {w y : World} {b : Nat} {R : Nat → Prop} {l : List UInt8} (h : IsWr w b R l) (k : ∃ n, w.drewN n = y) : IsWr y b R l := by
  obtain ⟨n, rfl⟩ := k
  exact h.drewN n
theorem IsRd.ex {w y : World} {b p : Nat} {s : ByteArray} (h : IsRd w b s p) (k : ∃ n, w.drewN n = y) : IsRd y b s p := by
  obtain ⟨n, rfl⟩ := k
  exact h.drewN n
theorem ML.ex {w y : World} {m : Int} (h : ML w m) (k : ∃ n, w.drewN n = y) : ML y m := by
  obtain ⟨n, rfl⟩ := k
  exact h
theorem seek_nil' (n : Value) (w : World) : Calls Try.prog 30 #[.pointer none, n] w fun e w' => e = .returned (.int .i64 16) ∧ w = w' := seek_nil n w
theorem left_nil (w : World) : Calls Try.prog 47 #[.pointer none] w fun e w' => e = .returned (.int .i64 0) ∧ w = w' := by
  go_enter Try.func47, Try.ntmps47
  go_wp2
  go_ret
  exact ⟨rfl, rfl⟩
theorem len_nil (w : World) : Calls Try.prog 39 #[.pointer none] w fun e w' => e = .returned (.int .i64 0) ∧ w = w' := by
  go_enter Try.func39, Try.ntmps39
  go_wp2
  go_ret
  exact ⟨rfl, rfl⟩
theorem string_nil (w : World) : Calls Try.prog 22 #[.pointer none] w fun e w' => e = .returned (.string ⟨#[]⟩) ∧ w = w' := by
  go_enter Try.func22, Try.ntmps22
  go_wp2
  go_ret
  exact ⟨rfl, rfl⟩
/-- Bytes, laid into a new block, are put. -/
theorem put_lit {w : World} {b : Nat} {R : Nat → Prop} {l : List UInt8} (h : IsWr w b R l) (cs : Array Value) (bs : List UInt8) (hcs : cs.toList = bv bs) (g n : Nat) (hg : g = w.heap.size) (hn : n = bs.length) (hlen : l.length + bs.length ≤ 140737488355328) :
    Calls Try.prog 50 #[.pointer (some ⟨b, 0, none⟩), .slice (some ⟨g, 0, none⟩) n n] (w.alloc (.cells cs 5)) fun e w' => e = .returned (.tuple #[]) ∧ WrPost w b R (l ++ bs) w' := by
  subst hg hn
  refine (put_any (h.alloc _) _ bs ?_ (by simpa using hlen)).mono ?_
  · refine .inr ⟨_, _, rfl, fun j u hj => ?_⟩
    rw [← hcs] at hj
    have hl := (List.getElem?_eq_some_iff.1 hj).1
    simp at hl
    rw [Addr.add_lit, cell_blk (heap_alloc_new w _)]
    simpa using hj
  · rintro e w' ⟨rfl, hw⟩
    refine ⟨rfl, hw.1.mono fun i hi => ?_, ((Only.refl (fun k => k = b ∨ R k) w).alloc _).trans hw.2 fun i _ hs => hs⟩
    rcases hi with hi | hi
    · exact .inl hi
    · exact .inr (by simp at hi; omega)
set_option maxHeartbeats 1000000 in
theorem awake1 (w : World) (m : Int) (hm : ML w m) : Calls Try.prog 48 #[] w fun e w' => e = .returned (.bool true) ∧ Below w.heap.size w w' := by
  have L1 : by1 ⟨#[97, 98, 97, 98]⟩ 0 = (97, 0, 1) := by decide +kernel
  have L2 : tk ⟨#[97, 98, 97, 98]⟩ 1 4 = (⟨#[]⟩, 2, 1) := by decide +kernel
  have L3 : find ⟨#[97, 98, 97, 98]⟩ 1 ⟨#[97, 98]⟩ = 2 := by decide +kernel
  have L4 : agree ⟨#[97, 98, 97, 98]⟩ 1 ⟨#[98, 97, 120]⟩ = 2 := by decide +kernel
  have L5 : ((⟨#[97, 98, 97, 98]⟩ : ByteArray).size : Int) - (1 : Nat) = 3 := by decide
  go_enter Try.func48, Try.ntmps48
  go_wp2_with fail
  refine (new_any _ _).mono ?_
  rintro e w6 ⟨rfl, rfl⟩
  have hR := isRd_new ⟨#[97, 98, 97, 98]⟩ w
  have hB := (Below.refl w.heap.size w).alloc (Nat.le_refl _) (.cells #[.string ⟨#[97, 98, 97, 98]⟩, .int .i64 0] 89)
  obtain ⟨b, hb⟩ : ∃ b, b = w.heap.size := ⟨_, rfl⟩
  have hbw : w.heap.size ≤ b := by omega
  rw [← hb] at hR ⊢
  have Hb := Lib.hid hb
  clear hb
  have hM := hm.below hB (Nat.le_refl _)
  generalize w.alloc (.cells #[.string ⟨#[97, 98, 97, 98]⟩, .int .i64 0] 89) = w7 at hR hB hM ⊢
  have hx := hB.size
  go_wp2_with (first | (go_at_call 52; (refine (byte_any hR (by decide) (by decide)).mono ?_); rintro e w8 ⟨rfl, hq⟩; rw [L1] at hq ⊢; have hB2 := bel_rd hB hq hbw hx; have hR2 := hq.1; clear hq hB hR hM; have hB := hB2; have hR := hR2; clear hB2 hR2; have hx := hB.size; have hM := hm.below hB (Nat.le_refl _)) | (go_at_call 49; (refine (take_any hR (by decide) (by decide) 4).mono ?_); rintro e w8 ⟨rfl, hq⟩; rw [L2] at hq ⊢; have hB2 := bel_rd hB hq hbw hx; have hR2 := hq.1; clear hq hB hR hM; have hB := hB2; have hR := hR2; clear hB2 hR2; have hx := hB.size; have hM := hm.below hB (Nat.le_refl _)))
  refine (put_lit (IsWr.fresh w8) _ [120, 0] rfl _ _ (by simp) rfl (by decide)).mono ?_
  rintro e w9 ⟨rfl, hw⟩
  have hk := kept_wrNew hw (fun _ h => h.elim)
  have hB2 := bel_start hB hk
  have hR2 := hR.kept hk
  have hbl := blk_lt hR
  have hW := hw.1
  have hws := hw.2.size
  rw [World.size_alloc] at hws
  clear hB hR hM hw hk
  go_wp2_with fail
  refine (text_any hW ⟨#[121, 122]⟩ (by decide)).mono ?_
  rintro e w10 ⟨rfl, hw⟩
  have hB := bel_wr hB2 hw hx (fun k hk => by simp at hk; omega) (by omega)
  have hM := hm.below hB (Nat.le_refl _)
  have hR := hR2.only hw.2 (by simp; omega)
  have hW2 := hw.1
  clear hB2 hR2 hW hw
  have hW := hW2
  clear hW2
  have hleft := fun (x : World) (h : IsRd x b ⟨#[97, 98, 97, 98]⟩ 1) => left_any h (by decide) (by decide)
  simp only [L5] at hleft
  go_wp2_with (first | (go_at_call 31; (with_reducible refine (at_any hR).mono ?_); rintro e w4 ⟨rfl, hn4⟩; have hB2 := bel_ex hB hn4; have hR2 := hR.ex hn4; have hW3 := hW.ex hn4; have hM2 := hM.ex hn4; clear hB hR hW hM hn4; have hB := hB2; have hR := hR2; have hW := hW3; have hM := hM2; clear hB2 hR2 hW3 hM2) | (go_at_call 47; (with_reducible refine (hleft _ hR).mono ?_); rintro e w4 ⟨rfl, hn4⟩; have hB2 := bel_ex hB hn4; have hR2 := hR.ex hn4; have hW3 := hW.ex hn4; have hM2 := hM.ex hn4; clear hB hR hW hM hn4; have hB := hB2; have hR := hR2; have hW := hW3; have hM := hM2; clear hB2 hR2 hW3 hM2) | (go_at_call 56; (refine (find_any hR (by decide) (by decide) ⟨#[97, 98]⟩ m hM).mono ?_); rintro e w4 ⟨rfl, hn4⟩; rw [L3]; have hB2 := bel_ex hB hn4; have hR2 := hR.ex hn4; have hW3 := hW.ex hn4; have hM2 := hM.ex hn4; clear hB hR hW hM hn4; have hB := hB2; have hR := hR2; have hW := hW3; have hM := hM2; clear hB2 hR2 hW3 hM2) | (go_at_call 54; (refine (agree_any hR (by decide) (by decide) ⟨#[98, 97, 120]⟩ (by decide)).mono ?_); rintro e w4 ⟨rfl, hn4⟩; rw [L4]; have hB2 := bel_ex hB hn4; have hR2 := hR.ex hn4; have hW3 := hW.ex hn4; have hM2 := hM.ex hn4; clear hB hR hW hM hn4; have hB := hB2; have hR := hR2; have hW := hW3; have hM := hM2; clear hB2 hR2 hW3 hM2) | (go_at_call 22; (with_reducible refine (string_any hW).mono ?_); rintro e w4 ⟨rfl, hn4⟩; have hB2 := bel_ex hB hn4; have hR2 := hR.ex hn4; have hW3 := hW.ex hn4; have hM2 := hM.ex hn4; clear hB hR hW hM hn4; have hB := hB2; have hR := hR2; have hW := hW3; have hM := hM2; clear hB2 hR2 hW3 hM2))
  go_ret
  exact ⟨rfl, hB⟩
theorem cursorNil_law (n : Int) (t : ByteArray) (w : World) (_hn : (Lit.int .i64 n).wf = true) (_ht : t.size ≤ maxLen) (m : Int) (hm : ML w m) : Calls Try.prog 20 #[.int .i64 n, .string t] w fun e w' => e = .returned (.bool true) ∧ Below w.heap.size w w' := by
  have hB := (Below.refl w.heap.size w).alloc (Nat.le_refl _) (.cells #[.int .u8 97] 5)
  have hM := hm.below hB (Nat.le_refl _)
  go_enter Try.func20, Try.ntmps20
  go_wp2_with (first | (go_at_call 50; (with_reducible refine (put_nil _ _).mono ?_); rintro e w6 ⟨rfl, rfl⟩) | (go_at_call 45; (with_reducible refine (text_nil _ _).mono ?_); rintro e w6 ⟨rfl, rfl⟩) | (go_at_call 52; (with_reducible refine (byte_nil _).mono ?_); rintro e w6 ⟨rfl, rfl⟩) | (go_at_call 49; (with_reducible refine (take_nil _ _).mono ?_); rintro e w6 ⟨rfl, rfl⟩) | (go_at_call 48; (with_reducible refine (awake1 _ m hM).mono ?_); rintro e w5 ⟨rfl, hk⟩; have hB2 := bel_start hB hk; clear hk hB; have hB := hB2; clear hB2) | (go_at_call 31; (with_reducible refine (at_nil _).mono ?_); rintro e w6 ⟨rfl, rfl⟩) | (go_at_call 47; (with_reducible refine (left_nil _).mono ?_); rintro e w6 ⟨rfl, rfl⟩) | (go_at_call 30; (with_reducible refine (seek_nil _ _).mono ?_); rintro e w6 ⟨rfl, rfl⟩) | (go_at_call 54; (with_reducible refine (agree_nil _ _).mono ?_); rintro e w6 ⟨rfl, rfl⟩) | (go_at_call 56; (with_reducible refine (find_nil _ _).mono ?_); rintro e w6 ⟨rfl, rfl⟩) | (go_at_call 39; (with_reducible refine (len_nil _).mono ?_); rintro e w6 ⟨rfl, rfl⟩) | (go_at_call 22; (with_reducible refine (string_nil _).mono ?_); rintro e w6 ⟨rfl, rfl⟩))
  go_ret
  exact ⟨rfl, hB⟩
/-- t stands in s at place i. -/
def stands (s t : ByteArray) (i : Nat) : Bool := t.data.toList.isPrefixOf (s.data.toList.drop i)
theorem eq_at (s t : ByteArray) (i : Nat) : ((s.extract i (i + t.size)).toList == t.toList) = stands s t i := by
  unfold stands
  rw [Lib.extract_toList, ByteArray.toList_eq, Bool.eq_iff_iff, beq_iff_eq, List.isPrefixOf_iff_prefix, show i + t.size - i = t.data.toList.length from by simp, List.prefix_iff_eq_take]
  exact eq_comm
theorem find_spec (s t : ByteArray) (p : Nat) (hp : p ≤ s.size) : (find s p t = -1 ∧ ∀ j, p ≤ j → j ≤ s.size → stands s t j = false) ∨
    ∃ k : Nat, find s p t = k ∧ p ≤ k ∧ k + t.size ≤ s.size ∧ stands s t k = true ∧ ∀ j, p ≤ j → j < k → stands s t j = false := by
  have hl : (s.data.toList.drop p).length = s.size - p := by simp
  unfold find
  rcases Lib.index_spec (s.data.toList.drop p) t.data.toList with ⟨h1, h2⟩ | ⟨i, h1, h2, h3, h4⟩
  · left
    rw [h1]
    refine ⟨rfl, fun j hj hj' => ?_⟩
    have := h2 (j - p) (by omega)
    unfold Lib.occAt at this
    rw [List.drop_drop, show p + (j - p) = j from by omega] at this
    exact this
  · right
    have hr := Lib.index_room (s.data.toList.drop p) t.data.toList (by omega)
    rw [h1, hl] at hr
    have ht : t.data.toList.length = t.size := by simp
    rw [h1, if_neg (by omega)]
    refine ⟨p + i, by omega, by omega, by omega, ?_, fun j hj hj' => ?_⟩
    · unfold Lib.occAt at h3
      rw [List.drop_drop] at h3
      exact h3
    · have := h4 (j - p) (by omega)
      unfold Lib.occAt at this
      rw [List.drop_drop, show p + (j - p) = j from by omega] at this
      exact this
set_option maxHeartbeats 2000000 in
theorem cursorFinds_law (s t : ByteArray) (at_ : Int) (w : World) (hs : s.size ≤ maxLen) (ht : t.size ≤ maxLen) (_ha : (Lit.int .i64 at_).wf = true) (m : Int) (hm : ML w m) : Calls Try.prog 19 #[.string s, .string t, .int .i64 at_] w fun e w' => e = .returned (.bool true) ∧ Below w.heap.size w w' := by
  unfold maxLen at hs ht
  have hB := Below.refl w.heap.size w
  by_cases hl : s.size ≤ 500
  · by_cases hl2 : t.size ≤ 500
    · have hd : decide ((500 : Int) < s.size) = false := by simp; omega
      have hd2 : decide ((500 : Int) < t.size) = false := by simp; omega
      obtain ⟨p, hp⟩ : ∃ p, p = (sk s 0 at_).2 := ⟨_, rfl⟩
      have hps : p ≤ s.size := by
        rw [hp]; unfold sk; split
        · simp
        · simp only; omega
      have Hp := Lib.hid hp
      have hsk := fun (x : World) (b : Nat) (h : IsRd x b s 0) => seek_any h at_
      rw [← hp] at hsk
      have hfind := fun (x : World) (b : Nat) (h : IsRd x b s p) (hx : ML x m) => find_any h hps (by omega) t m hx
      have hspec := find_spec s t p hps
      generalize find s p t = k at hfind hspec
      clear hp
      go_enter Try.func19, Try.ntmps19
      go_wp2_with (first | (go_at_call 48; (with_reducible refine (awake1 _ m hm).mono ?_); rintro e w5 ⟨rfl, hk⟩; have hB2 := bel_start hB hk; clear hk hB; have hB := hB2; clear hB2))
      refine (new_any _ _).mono ?_
      rintro e w6 ⟨rfl, rfl⟩
      have hR := isRd_new s w5
      have hsz := hB.size
      have hB2 := hB.alloc hsz (.cells #[.string s, .int .i64 0] 89)
      clear hB
      have hB := hB2
      clear hB2
      obtain ⟨b, hb⟩ : ∃ b, b = w5.heap.size := ⟨_, rfl⟩
      rw [← hb] at hR hsz ⊢
      have Hb := Lib.hid hb
      clear hb
      generalize w5.alloc (.cells #[.string s, .int .i64 0] 89) = w7 at hR hB ⊢
      have hx := hB.size
      have hM := hm.below hB (Nat.le_refl _)
      rcases hspec with ⟨rfl, hno⟩ | ⟨k, rfl, hpk, hkt, hst, hno⟩
      · go_wp2_with (first | (go_at_call 30; (with_reducible refine (hsk _ _ hR).mono ?_); rintro e w8 ⟨rfl, hq⟩; have hB2 := bel_rd hB hq hsz hx; have hR2 := hq.1; clear hq hB hR hM; have hB := hB2; have hR := hR2; clear hB2 hR2; have hx := hB.size; have hM := hm.below hB (Nat.le_refl _)) | (go_at_call 31; (with_reducible refine (at_any hR).mono ?_); rintro e w4 ⟨rfl, hn4⟩; have hB2 := bel_ex hB hn4; have hR2 := hR.ex hn4; have hM2 := hM.ex hn4; clear hB hR hM hn4; have hB := hB2; have hR := hR2; have hM := hM2; clear hB2 hR2 hM2) | (go_at_call 56; (with_reducible refine (hfind _ _ hR hM).mono ?_); rintro e w4 ⟨rfl, hn4⟩; have hB2 := bel_ex hB hn4; have hR2 := hR.ex hn4; have hM2 := hM.ex hn4; clear hB hR hM hn4; have hB := hB2; have hR := hR2; have hM := hM2; clear hB2 hR2 hM2))
        have hsl : s.size + 1 ≤ 501 := by omega
        clear hl
        go_loop [9] (fun x => ∃ i : Nat, x = .int .i64 i ∧ p ≤ i ∧ i ≤ s.size + 1) (fun x => s.size + 1 - (intOf x).toNat)
        case atStart => exact ⟨p, rfl, by omega, by omega⟩
        case round =>
          obtain ⟨i, rfl, hi1, hi2⟩ := hrel
          by_cases hlt : i + t.size ≤ s.size
          · have hs0 := hno i hi1 (by omega)
            rw [← eq_at] at hs0
            have hle : (i : Int) ≤ (s.size : Int) - t.size := by omega
            clear hno
            go_wp2
            go_round
            case rel => exact ⟨i + 1, by go_num, by omega, by omega⟩
            case measure => simp [intOf]; omega
          · have hle : (s.size : Int) - t.size < i := by omega
            clear hno
            go_wp2
            go_ret
            exact ⟨rfl, hB⟩
      · have e1 : ((k : Int) != -1) = true := by simp
        have e2 : ((k : Int) == -1) = false := by simp
        have e3 : (p : Int) ≤ k := by omega
        have e4 : (k : Int) ≤ (s.size : Int) - t.size := by omega
        rw [← eq_at] at hst
        go_wp2_with (first | (go_at_call 30; (with_reducible refine (hsk _ _ hR).mono ?_); rintro e w8 ⟨rfl, hq⟩; have hB2 := bel_rd hB hq hsz hx; have hR2 := hq.1; clear hq hB hR hM; have hB := hB2; have hR := hR2; clear hB2 hR2; have hx := hB.size; have hM := hm.below hB (Nat.le_refl _)) | (go_at_call 31; (with_reducible refine (at_any hR).mono ?_); rintro e w4 ⟨rfl, hn4⟩; have hB2 := bel_ex hB hn4; have hR2 := hR.ex hn4; have hM2 := hM.ex hn4; clear hB hR hM hn4; have hB := hB2; have hR := hR2; have hM := hM2; clear hB2 hR2 hM2) | (go_at_call 56; (with_reducible refine (hfind _ _ hR hM).mono ?_); rintro e w4 ⟨rfl, hn4⟩; have hB2 := bel_ex hB hn4; have hR2 := hR.ex hn4; have hM2 := hM.ex hn4; clear hB hR hM hn4; have hB := hB2; have hR := hR2; have hM := hM2; clear hB2 hR2 hM2))
        have hsl : s.size + 1 ≤ 501 := by omega
        clear hl
        go_loop [9] (fun x => ∃ i : Nat, x = .int .i64 i ∧ p ≤ i ∧ i ≤ k) (fun x => k - (intOf x).toNat)
        case atStart => exact ⟨p, rfl, by omega, by omega⟩
        case round =>
          obtain ⟨i, rfl, hi1, hi2⟩ := hrel
          have hle : (i : Int) ≤ (s.size : Int) - t.size := by omega
          by_cases hlt : i < k
          · have hs0 := hno i hi1 hlt
            rw [← eq_at] at hs0
            clear hno
            go_wp2
            go_round
            case rel => exact ⟨i + 1, by go_num, by omega, by omega⟩
            case measure => simp [intOf]; omega
          · have hge : (k : Int) ≤ i := by omega
            clear hno
            go_wp2
            go_ret
            exact ⟨rfl, hB⟩

    · have hd : decide ((500 : Int) < s.size) = false := by simp; omega
      have hd' : (s.size : Int) ≤ 500 := by omega
      have hd2 : (500 : Int) < t.size := by omega
      clear hl hl2
      go_enter Try.func19, Try.ntmps19
      go_wp2_with (first | (go_at_call 48; (with_reducible refine (awake1 _ m (hm.below hB (Nat.le_refl _))).mono ?_); rintro e w5 ⟨rfl, hk⟩; have hB2 := bel_start hB hk; clear hk hB; have hB := hB2; clear hB2))
      go_ret
      exact ⟨rfl, hB⟩
  · have hd' : (500 : Int) < s.size := by omega
    clear hl
    go_enter Try.func19, Try.ntmps19
    go_wp2_with (first | (go_at_call 48; (with_reducible refine (awake1 _ m (hm.below hB (Nat.le_refl _))).mono ?_); rintro e w5 ⟨rfl, hk⟩; have hB2 := bel_start hB hk; clear hk hB; have hB := hB2; clear hB2))
    go_ret
    exact ⟨rfl, hB⟩
end Go.Proofs.Ytedbbmopckbfbaa
