/- The walk of CursorReads: the whole. -/
import Derived.Test.YtedbbmopckbfbaaW1R
import Derived.Test.YtedbbmopckbfbaaW1P
namespace Go.Proofs.Ytedbbmopckbfbaa
open Go.RowKit
set_option maxRecDepth 20000
theorem SlArgN.keep {W w' : World} {oa : Option Addr} {len cap c B : Nat} {F : Nat → Nat → Value} (h : SlArgN W oa len cap c F) (k : Below B W w') (hB : W.heap.size ≤ B) : SlArgN w' oa len cap c F :=
  ⟨h.1, h.2.1, fun i hi => by
    obtain ⟨b, off, h1, h2, h3⟩ := h.below k hB hi
    exact ⟨b, off, h1, Nat.lt_of_lt_of_le h2 k.size, h3⟩⟩
theorem by1_tk (s : ByteArray) (p : Nat) (hp : p ≤ s.size) : (p < s.size ∧ ∃ (h : p < s.size), by1 s p = ((s[p].toNat : Int), 0, p + 1) ∧ tk s p 1 = (s.extract p (p + 1), 0, p + 1)) ∨ (by1 s p = (0, 2, p) ∧ tk s p 1 = (⟨#[]⟩, 2, p)) := by
  by_cases h : p < s.size
  · left
    refine ⟨h, h, by simp [by1, h], ?_⟩
    unfold tk
    rw [if_neg (by omega), if_neg (by omega)]
    rfl
  · right
    refine ⟨by simp [by1, h], ?_⟩
    unfold tk
    rw [if_neg (by omega), if_pos (by omega)]
set_option maxHeartbeats 4000000 in
theorem cursorReads_law (s : ByteArray) (oa : Option Addr) (len cap : Nat) (z : Nat → OpV) (w : World) (hs : s.size ≤ maxLen) (hsl : SlArgN w oa len cap 3 (fun i j => (z i).f j)) (hr : cap * 32 ≤ 140737488351232) (hz : ∀ i, i < len → (Lit.int .i64 (z i).n).wf = true ∧ (z i).t.size ≤ maxLen) (m : Int) (hm : ML w m) :
    Calls Try.prog 18 #[.string s, .slice oa len cap] w fun e w' => e = .returned (.bool true) ∧ Below w.heap.size w w' := by
  have hB := Below.refl w.heap.size w
  have hlong := fun (x : World) (hx : Below w.heap.size w x) => long_any s oa len cap z x hs (hsl.keep hx (Nat.le_refl _)) hr hz
  have hlc := hsl.1
  have hll : len ≤ 8796093021952 := by omega
  unfold maxLen at hs hz
  by_cases hlg : (decide ((1000 : Int) < s.size) || decide ((2000 : Int) < (len : Int) + (costO z len : Int))) = true
  · simp only [hlg] at hlong
    clear hlg
    go_enter Try.func18, Try.ntmps18
    go_wp2_with (first | (go_at_call 48; (with_reducible refine (awake1 _ m (hm.below hB (Nat.le_refl _))).mono ?_); rintro e w5 ⟨rfl, hk⟩; have hB2 := bel_start hB hk; clear hk hB; have hB := hB2; clear hB2) | (go_at_call 51; (with_reducible refine (hlong _ hB).mono ?_); rintro e w6 ⟨rfl, hk⟩; have hB2 := bel_start hB hk; clear hk hB; have hB := hB2; clear hB2))
    go_ret
    exact ⟨rfl, hB⟩
  · have hlf := Bool.eq_false_iff.2 hlg
    simp only [hlf] at hlong
    rw [Bool.or_eq_false_iff, decide_eq_false_iff_not, decide_eq_false_iff_not] at hlf
    obtain ⟨hl, hl2⟩ := hlf
    have hl : s.size ≤ 1000 := by omega
    have hl2 : len + costO z len ≤ 2000 := by omega
    have hone : ∀ i, i < len → (z i).t.size ≤ 2000 := fun i hi => costO_one z (by omega) hi
    clear hlg hr hlc hll hz
    go_enter Try.func18, Try.ntmps18
    go_wp2_with (first | (go_at_call 48; (with_reducible refine (awake1 _ m (hm.below hB (Nat.le_refl _))).mono ?_); rintro e w5 ⟨rfl, hk⟩; have hB2 := bel_start hB hk; clear hk hB; have hB := hB2; clear hB2) | (go_at_call 51; (with_reducible refine (hlong _ hB).mono ?_); rintro e w6 ⟨rfl, hk⟩; have hB2 := bel_start hB hk; clear hk hB; have hB := hB2; clear hB2))
    clear hlong
    refine (new_any _ _).mono ?_
    rintro e w8 ⟨rfl, rfl⟩
    have hR := isRd_new s w6
    have hsz := hB.size
    have hB2 := hB.alloc hsz (.cells #[.string s, .int .i64 0] 89)
    clear hB
    have hB := hB2
    clear hB2
    obtain ⟨b, hb⟩ : ∃ b, b = w6.heap.size := ⟨_, rfl⟩
    rw [← hb] at hR hsz ⊢
    have Hb := Lib.hid hb
    clear hb
    generalize w6.alloc (.cells #[.string s, .int .i64 0] 89) = w7 at hR hB ⊢
    go_wp2
    go_loopw [6, 32] (fun a x wr => ∃ (p i : Nat), a = .int .i64 p ∧ x = .int .i64 i ∧ i ≤ len ∧ p ≤ s.size ∧ IsRd wr b s p ∧ Below w.heap.size w wr) (fun _ x _ => len - (intOf x).toNat)
    case atStart => exact ⟨0, 0, rfl, rfl, by omega, by omega, hR, hB⟩
    case round =>
      clear hR hB
      obtain ⟨p, i, rfl, rfl, hi, hp, hR, hB⟩ := hrel
      have hx := hB.size
      by_cases hlt : i < len
      · obtain ⟨g, off, rfl, hg, hc⟩ := hsl.below hB (Nat.le_refl _) hlt
        have hlt' : (i : Int) < len := by omega
        have hc0 := hc 0 (by decide)
        have hc1 := hc 1 (by decide)
        have hc2 := hc 2 (by decide)
        simp only [OpV.f, Nat.add_zero] at hc0 hc1 hc2
        have ht1 := hone i hlt
        clear hc hone
        generalize (z i).k = k at hc0
        generalize (z i).n = n at hc1
        generalize (z i).t = t at hc2 ht1
        have hB2 := hB.alloc hx (.cells #[.int .i64 k, .int .i64 n, .string t] 78)
        have hO : (wr.alloc (.cells #[.int .i64 k, .int .i64 n, .string t] 78)).heap[wr.heap.size]? = some (.cells #[.int .i64 k, .int .i64 n, .string t] 78 (0, 0)) := heap_alloc_new wr _
        have hR2 : IsRd (wr.alloc (.cells #[.int .i64 k, .int .i64 n, .string t] 78)) b s p := hR.kept (Below.refl _ _ |>.alloc (Nat.le_refl _) _)
        have hbo : b ≠ wr.heap.size := by have := blk_lt hR; omega
        have hk1 : (wr.alloc (.cells #[.int .i64 k, .int .i64 n, .string t] 78)).cell? ⟨wr.heap.size, 1, none⟩ = some (.int .i64 n) := by rw [cell_blk hO]; rfl
        have hk2 : (wr.alloc (.cells #[.int .i64 k, .int .i64 n, .string t] 78)).cell? ⟨wr.heap.size, 2, none⟩ = some (.string t) := by rw [cell_blk hO]; rfl
        by_cases k1 : k = 1
        · subst k1
          rcases by1_tk s p hp with ⟨_, hps, e1, e2⟩ | ⟨e1, e2⟩
          · have hX1 := extract_one s p hps
            have hX0 := extract_at s p hps
            generalize s.extract p (p + 1) = X at e2 hX1 hX0
            have hX0 := hX0 (by omega)
            have hbb : ((s[p].toNat : Int) == (X[0].toNat : Int)) = true := by rw [hX0]; simp
            clear hX0
            have hby := fun (x : World) (h : IsRd x b s p) => byte_any h hp (by omega)
            simp only [e1] at hby
            have hr1 := fun x => r1take_any s p hp (by omega) 1 x
            simp only [e2] at hr1
            go_wp2_with fail
            generalize wr.alloc (.cells #[.int .i64 1, .int .i64 n, .string t] 78) = W at hB2 hO hR2 hk1 hk2 ⊢
            refine (hby _ hR2).mono ?_
            rintro e w9 ⟨rfl, hq⟩
            have hB3 := bel_rd hB2 hq hsz hB2.size
            have hR3 := hq.1
            have hO3 := hq.2.keeps hO (fun h => hbo h.symm)
            have hk3 : w9.cell? ⟨wr.heap.size, 1, none⟩ = some (.int .i64 n) := by rw [cell_blk hO3]; rfl
            clear hq hB hR hB2 hR2 hO hO3 hc0 hc1 hc2 hk1 hk2
            have hB := hB3
            have hR := hR3
            clear hB3 hR3
            go_wp2_with (first | (go_at_call 53; (with_reducible refine (hr1 _).mono ?_); rintro e w10 ⟨rfl, rfl⟩) | (go_at_call 31; (with_reducible refine (at_any hR).mono ?_); rintro e w4 ⟨rfl, hn4⟩; have hB2 := bel_ex hB hn4; have hR2 := hR.ex hn4; clear hB hR; have hB := hB2; have hR := hR2; clear hB2 hR2 hn4) | (go_at_call 47; (with_reducible refine (left_any hR (by omega) (by omega)).mono ?_); rintro e w4 ⟨rfl, hn4⟩; have hB2 := bel_ex hB hn4; have hR2 := hR.ex hn4; clear hB hR; have hB := hB2; have hR := hR2; clear hB2 hR2 hn4))
            go_roundw
            case rel => exact ⟨p + 1, i + 1, by go_num, by go_num, by omega, hps, hR, hB⟩
            case measure => simp [intOf]; omega
          · have hby := fun (x : World) (h : IsRd x b s p) => byte_any h hp (by omega)
            simp only [e1] at hby
            have hr1 := fun x => r1take_any s p hp (by omega) 1 x
            simp only [e2] at hr1
            go_wp2_with fail
            generalize wr.alloc (.cells #[.int .i64 1, .int .i64 n, .string t] 78) = W at hB2 hO hR2 hk1 hk2 ⊢
            refine (hby _ hR2).mono ?_
            rintro e w9 ⟨rfl, hq⟩
            have hB3 := bel_rd hB2 hq hsz hB2.size
            have hR3 := hq.1
            have hO3 := hq.2.keeps hO (fun h => hbo h.symm)
            have hk3 : w9.cell? ⟨wr.heap.size, 1, none⟩ = some (.int .i64 n) := by rw [cell_blk hO3]; rfl
            clear hq hB hR hB2 hR2 hO hO3 hc0 hc1 hc2 hk1 hk2
            have hB := hB3
            have hR := hR3
            clear hB3 hR3
            go_wp2_with (first | (go_at_call 53; (with_reducible refine (hr1 _).mono ?_); rintro e w10 ⟨rfl, rfl⟩) | (go_at_call 31; (with_reducible refine (at_any hR).mono ?_); rintro e w4 ⟨rfl, hn4⟩; have hB2 := bel_ex hB hn4; have hR2 := hR.ex hn4; clear hB hR; have hB := hB2; have hR := hR2; clear hB2 hR2 hn4) | (go_at_call 47; (with_reducible refine (left_any hR (by omega) (by omega)).mono ?_); rintro e w4 ⟨rfl, hn4⟩; have hB2 := bel_ex hB hn4; have hR2 := hR.ex hn4; clear hB hR; have hB := hB2; have hR := hR2; clear hB2 hR2 hn4))
            go_roundw
            case rel => exact ⟨p, i + 1, rfl, by go_num, by omega, hp, hR, hB⟩
            case measure => simp [intOf]; omega
        · have q1 : (k == 1) = false := by simp [k1]
          by_cases k2 : k = 2
          · subst k2
            obtain ⟨t', e', q, e2, hq', _, _, _⟩ := tk_parts s p n hp
            have htk := fun (x : World) (h : IsRd x b s p) => take_any h hp (by omega) n
            simp only [e2] at htk
            have hr1 := fun x => r1take_any s p hp (by omega) n x
            simp only [e2] at hr1
            go_wp2_with fail
            generalize wr.alloc (.cells #[.int .i64 2, .int .i64 n, .string t] 78) = W at hB2 hO hR2 hk1 hk2 ⊢
            refine (htk _ hR2).mono ?_
            rintro e w9 ⟨rfl, hq⟩
            have hB3 := bel_rd hB2 hq hsz hB2.size
            have hR3 := hq.1
            have hO3 := hq.2.keeps hO (fun h => hbo h.symm)
            have hk3 : w9.cell? ⟨wr.heap.size, 1, none⟩ = some (.int .i64 n) := by rw [cell_blk hO3]; rfl
            clear hq hB hR hB2 hR2 hO hO3 hc0 hc1 hc2 hk1 hk2
            have hB := hB3
            have hR := hR3
            clear hB3 hR3
            go_wp2_with (first | (go_at_call 53; (with_reducible refine (hr1 _).mono ?_); rintro e w10 ⟨rfl, rfl⟩) | (go_at_call 31; (with_reducible refine (at_any hR).mono ?_); rintro e w4 ⟨rfl, hn4⟩; have hB2 := bel_ex hB hn4; have hR2 := hR.ex hn4; clear hB hR; have hB := hB2; have hR := hR2; clear hB2 hR2 hn4) | (go_at_call 47; (with_reducible refine (left_any hR (by omega) (by omega)).mono ?_); rintro e w4 ⟨rfl, hn4⟩; have hB2 := bel_ex hB hn4; have hR2 := hR.ex hn4; clear hB hR; have hB := hB2; have hR := hR2; clear hB2 hR2 hn4))
            go_roundw
            case rel => exact ⟨q, i + 1, rfl, by go_num, by omega, hq', hR, hB⟩
            case measure => simp [intOf]; omega
          · have q2 : (k == 2) = false := by simp [k2]
            by_cases k3 : k = 3
            · subst k3
              by_cases n0 : n < 0
              · have e1 : sk s p n = (1, p) := by unfold sk; rw [if_pos (.inl n0)]
                have d1 : decide (0 ≤ n) = false := by simp; omega
                have hsk := fun (x : World) (h : IsRd x b s p) => seek_any h n
                simp only [e1] at hsk
                go_wp2_with fail
                generalize wr.alloc (.cells #[.int .i64 3, .int .i64 n, .string t] 78) = W at hB2 hO hR2 hk1 hk2 ⊢
                refine (hsk _ hR2).mono ?_
                rintro e w9 ⟨rfl, hq⟩
                have hB3 := bel_rd hB2 hq hsz hB2.size
                have hR3 := hq.1
                have hO3 := hq.2.keeps hO (fun h => hbo h.symm)
                have hk3 : w9.cell? ⟨wr.heap.size, 1, none⟩ = some (.int .i64 n) := by rw [cell_blk hO3]; rfl
                clear hq hB hR hB2 hR2 hO hO3 hc0 hc1 hc2 hk1 hk2
                have hB := hB3
                have hR := hR3
                clear hB3 hR3
                go_wp2_with (first | (go_at_call 31; (with_reducible refine (at_any hR).mono ?_); rintro e w4 ⟨rfl, hn4⟩; have hB2 := bel_ex hB hn4; have hR2 := hR.ex hn4; clear hB hR; have hB := hB2; have hR := hR2; clear hB2 hR2 hn4) | (go_at_call 47; (with_reducible refine (left_any hR (by omega) (by omega)).mono ?_); rintro e w4 ⟨rfl, hn4⟩; have hB2 := bel_ex hB hn4; have hR2 := hR.ex hn4; clear hB hR; have hB := hB2; have hR := hR2; clear hB2 hR2 hn4))
                go_roundw
                case rel => exact ⟨p, i + 1, rfl, by go_num, by omega, hp, hR, hB⟩
                case measure => simp [intOf]; omega
              · by_cases n1 : (s.size : Int) < n
                · have e1 : sk s p n = (1, p) := by unfold sk; rw [if_pos (.inr n1)]
                  have d1 : decide (0 ≤ n) = true := by simp; omega
                  have d2 : decide (n ≤ s.size) = false := by simp; omega
                  have hsk := fun (x : World) (h : IsRd x b s p) => seek_any h n
                  simp only [e1] at hsk
                  go_wp2_with fail
                  generalize wr.alloc (.cells #[.int .i64 3, .int .i64 n, .string t] 78) = W at hB2 hO hR2 hk1 hk2 ⊢
                  refine (hsk _ hR2).mono ?_
                  rintro e w9 ⟨rfl, hq⟩
                  have hB3 := bel_rd hB2 hq hsz hB2.size
                  have hR3 := hq.1
                  have hO3 := hq.2.keeps hO (fun h => hbo h.symm)
                  have hk3 : w9.cell? ⟨wr.heap.size, 1, none⟩ = some (.int .i64 n) := by rw [cell_blk hO3]; rfl
                  clear hq hB hR hB2 hR2 hO hO3 hc0 hc1 hc2 hk1 hk2
                  have hB := hB3
                  have hR := hR3
                  clear hB3 hR3
                  go_wp2_with (first | (go_at_call 31; (with_reducible refine (at_any hR).mono ?_); rintro e w4 ⟨rfl, hn4⟩; have hB2 := bel_ex hB hn4; have hR2 := hR.ex hn4; clear hB hR; have hB := hB2; have hR := hR2; clear hB2 hR2 hn4) | (go_at_call 47; (with_reducible refine (left_any hR (by omega) (by omega)).mono ?_); rintro e w4 ⟨rfl, hn4⟩; have hB2 := bel_ex hB hn4; have hR2 := hR.ex hn4; clear hB hR; have hB := hB2; have hR := hR2; clear hB2 hR2 hn4))
                  go_roundw
                  case rel => exact ⟨p, i + 1, rfl, by go_num, by omega, hp, hR, hB⟩
                  case measure => simp [intOf]; omega
                · obtain ⟨q, rfl⟩ : ∃ q : Nat, n = q := ⟨n.toNat, by omega⟩
                  have hq0 : q ≤ s.size := by omega
                  have e1 := sk_ok s p q hq0
                  have d2 : decide ((q : Int) ≤ s.size) = true := by simp; omega
                  have d3 : decide (q ≤ s.size) = true := by simp; omega
                  have hsk := fun (x : World) (h : IsRd x b s p) => seek_any h q
                  simp only [e1] at hsk
                  go_wp2_with fail
                  generalize wr.alloc (.cells #[.int .i64 3, .int .i64 q, .string t] 78) = W at hB2 hO hR2 hk1 hk2 ⊢
                  refine (hsk _ hR2).mono ?_
                  rintro e w9 ⟨rfl, hq⟩
                  have hB3 := bel_rd hB2 hq hsz hB2.size
                  have hR3 := hq.1
                  have hO3 := hq.2.keeps hO (fun h => hbo h.symm)
                  have hk3 : w9.cell? ⟨wr.heap.size, 1, none⟩ = some (.int .i64 q) := by rw [cell_blk hO3]; rfl
                  clear hq hB hR hB2 hR2 hO hO3 hc0 hc1 hc2 hk1 hk2
                  have hB := hB3
                  have hR := hR3
                  clear hB3 hR3
                  go_wp2_with (first | (go_at_call 31; (with_reducible refine (at_any hR).mono ?_); rintro e w4 ⟨rfl, hn4⟩; have hB2 := bel_ex hB hn4; have hR2 := hR.ex hn4; clear hB hR; have hB := hB2; have hR := hR2; clear hB2 hR2 hn4) | (go_at_call 47; (with_reducible refine (left_any hR (by omega) (by omega)).mono ?_); rintro e w4 ⟨rfl, hn4⟩; have hB2 := bel_ex hB hn4; have hR2 := hR.ex hn4; clear hB hR; have hB := hB2; have hR := hR2; clear hB2 hR2 hn4))
                  go_roundw
                  case rel => exact ⟨q, i + 1, rfl, by go_num, by omega, hq0, hR, hB⟩
                  case measure => simp [intOf]; omega
            · have q3 : (k == 3) = false := by simp [k3]
              by_cases k4 : k = 4
              · subst k4
                go_wp2_with fail
                generalize wr.alloc (.cells #[.int .i64 4, .int .i64 n, .string t] 78) = W at hB2 hO hR2 hk1 hk2 ⊢
                have ha := fun (j : Nat) => (agree_any (hR2.drewN j) hp (by omega) t (by omega)).mono fun e w' ⟨h1, j2, h2⟩ => (⟨h1, j + j2, by rw [← h2, World.drewN_drewN]⟩ : _ ∧ ∃ m, w' = W.drewN m)
                have hb := fun (j : Nat) => (r1agree_any s p hp (by omega) t (by omega) (W.drewN j)).mono fun e w' ⟨h1, j2, h2⟩ => (⟨h1, j + j2, by rw [← h2, World.drewN_drewN]⟩ : _ ∧ ∃ m, w' = W.drewN m)
                go_quiet (first | exact ha _ | exact hb _)
                have hB3 := below_drewN hB2 nq
                have hR3 := hR2.drewN nq
                clear hB hR hB2 hR2 hO hc0 hc1 hc2 hk1 hk2 ha hb
                have hB := hB3
                have hR := hR3
                clear hB3 hR3
                go_wp2_with (first | (go_at_call 31; (with_reducible refine (at_any hR).mono ?_); rintro e w4 ⟨rfl, hn4⟩; have hB2 := bel_ex hB hn4; have hR2 := hR.ex hn4; clear hB hR; have hB := hB2; have hR := hR2; clear hB2 hR2 hn4) | (go_at_call 47; (with_reducible refine (left_any hR (by omega) (by omega)).mono ?_); rintro e w4 ⟨rfl, hn4⟩; have hB2 := bel_ex hB hn4; have hR2 := hR.ex hn4; clear hB hR; have hB := hB2; have hR := hR2; clear hB2 hR2 hn4))
                go_roundw
                case rel => exact ⟨p, i + 1, rfl, by go_num, by omega, hp, hR, hB⟩
                case measure => simp [intOf]; omega
              · have q4 : (k == 4) = false := by simp [k4]
                by_cases k5 : k = 5
                · subst k5
                  go_wp2_with fail
                  generalize wr.alloc (.cells #[.int .i64 5, .int .i64 n, .string t] 78) = W at hB2 hO hR2 hk1 hk2 ⊢
                  have ha := fun (j : Nat) => (find_any (hR2.drewN j) hp (by omega) t m ((hm.below hB2 (Nat.le_refl _)).ex ⟨j, rfl⟩)).mono fun e w' ⟨h1, j2, h2⟩ => (⟨h1, j + j2, by rw [← h2, World.drewN_drewN]⟩ : _ ∧ ∃ m, w' = W.drewN m)
                  have hb := fun (j : Nat) => (r1find_any s p hp (by omega) t (by omega) (W.drewN j)).mono fun e w' ⟨h1, j2, h2⟩ => (⟨h1, j + j2, by rw [← h2, World.drewN_drewN]⟩ : _ ∧ ∃ m, w' = W.drewN m)
                  go_quiet (first | exact ha _ | exact hb _)
                  have hB3 := below_drewN hB2 nq
                  have hR3 := hR2.drewN nq
                  clear hB hR hB2 hR2 hO hc0 hc1 hc2 hk1 hk2 ha hb
                  have hB := hB3
                  have hR := hR3
                  clear hB3 hR3
                  go_wp2_with (first | (go_at_call 31; (with_reducible refine (at_any hR).mono ?_); rintro e w4 ⟨rfl, hn4⟩; have hB2 := bel_ex hB hn4; have hR2 := hR.ex hn4; clear hB hR; have hB := hB2; have hR := hR2; clear hB2 hR2 hn4) | (go_at_call 47; (with_reducible refine (left_any hR (by omega) (by omega)).mono ?_); rintro e w4 ⟨rfl, hn4⟩; have hB2 := bel_ex hB hn4; have hR2 := hR.ex hn4; clear hB hR; have hB := hB2; have hR := hR2; clear hB2 hR2 hn4))
                  go_roundw
                  case rel => exact ⟨p, i + 1, rfl, by go_num, by omega, hp, hR, hB⟩
                  case measure => simp [intOf]; omega
                · have q5 : (k == 5) = false := by simp [k5]
                  clear hB hR
                  have hB := hB2
                  have hR := hR2
                  clear hB2 hR2 hO hk1 hk2
                  go_wp2_with (first | (go_at_call 31; (with_reducible refine (at_any hR).mono ?_); rintro e w4 ⟨rfl, hn4⟩; have hB2 := bel_ex hB hn4; have hR2 := hR.ex hn4; clear hB hR; have hB := hB2; have hR := hR2; clear hB2 hR2 hn4) | (go_at_call 47; (with_reducible refine (left_any hR (by omega) (by omega)).mono ?_); rintro e w4 ⟨rfl, hn4⟩; have hB2 := bel_ex hB hn4; have hR2 := hR.ex hn4; clear hB hR; have hB := hB2; have hR := hR2; clear hB2 hR2 hn4))
                  go_roundw
                  case rel => exact ⟨p, i + 1, rfl, by go_num, by omega, hp, hR, hB⟩
                  case measure => simp [intOf]; omega
      · obtain rfl : i = len := by omega
        go_wp2
        go_ret
        exact ⟨rfl, hB⟩
end Go.Proofs.Ytedbbmopckbfbaa
