/- Contracts of the listing's reader: register, mode. No condition but those that each names. -/
import Derived.Test.YtghfkpddkmaflaaDoorIv
namespace Go.Proofs.YtghfkpddkmaflaaDoor
open Go Go.RowKit
set_option linter.unusedVariables false
set_option linter.unusedSimpArgs false
set_option maxRecDepth 20000
theorem RS.cells {w : World} {r q : Nat} {rem : List (List UInt8)} {bad : Bool} (h : RS w r q rem bad) : w.cell? ⟨r, 1, none⟩ = some (.bool bad) ∧ w.frozen? ⟨r, 1, none⟩ = false := by
  obtain ⟨o, hb, _⟩ := h.ex
  exact ⟨by rw [cell_blk hb]; rfl, frozen_blk hb 1⟩
theorem RS.set {w : World} {r q : Nat} {rem : List (List UInt8)} {bad : Bool} (h : RS w r q rem bad) : RS (w.setCell ⟨r, 1, none⟩ (.bool true)) r q rem true := by
  obtain ⟨⟨o, hb, hc⟩, hq, hs, hl⟩ := h
  refine ⟨⟨o, ?_, fun i hi => ?_⟩, hq, hs, hl⟩
  · rw [blk_setCell hb]
    rfl
  · rw [← hc i hi]
    unfold World.cell?
    rw [Below.heap_setCell _ _ _ _ (show q ≠ r by omega)]
/-- What one more field is read as. -/
structure RF (w : World) (r q : Nat) (rd : List UInt8 → Option Nat) (lim : Nat) (rem : List (List UInt8)) (bad : Bool) (v : Nat) (rem' : List (List UInt8)) (bad' : Bool) (w' : World) : Prop where
  rs : RS w' r q rem' bad'
  on : Only (fun k => k = r) w w'
  ok : Hid (∀ n t, tkF true rd rem = some (n, t) → v = n ∧ rem' = t ∧ bad' = bad)
  no : Hid (tkF true rd rem = none → bad' = true)
  st : Hid (bad = true → bad' = true)
  lt : v < lim
theorem RF.fail {w w1 : World} {r q : Nat} {rd : List UInt8 → Option Nat} {lim : Nat} {rem rem' : List (List UInt8)} {bad bad' : Bool} (hn : tkF true rd rem = none) (hl : 0 < lim) (h : RS w1 r q rem' bad') (o : Only (fun k => k = r) w w1) : RF w r q rd lim rem bad 0 rem' true (w1.setCell ⟨r, 1, none⟩ (.bool true)) :=
  ⟨h.set, o.setCell _ _ (fun _ => rfl), Lib.hid (fun n t e => by rw [hn] at e; cases e), Lib.hid (fun _ => rfl), Lib.hid (fun _ => rfl), hl⟩
theorem RF.good {w w1 : World} {r q : Nat} {rd : List UInt8 → Option Nat} {lim v : Nat} {x : List UInt8} {t : List (List UInt8)} {bad : Bool} (hn : rd x = some v) (hl : v < lim) (h : RS w1 r q t bad) (o : Only (fun k => k = r) w w1) : RF w r q rd lim (x :: t) bad v t bad w1 := by
  have e : tkF true rd (x :: t) = some (v, t) := by show (rd x).map _ = _; rw [hn]; rfl
  exact ⟨h, o, Lib.hid (fun n u h => by rw [e] at h; cases h; exact ⟨rfl, rfl, rfl⟩), Lib.hid (fun h => by rw [e] at h; cases h), Lib.hid id, hl⟩
theorem tkF_none {rd : List UInt8 → Option Nat} {x : List UInt8} {t : List (List UInt8)} (h : rd x = none) : tkF true rd (x :: t) = none := by
  show (rd x).map _ = none
  rw [h]
  rfl
/-- next at the end. -/
theorem lnext_nil (r q : Nat) (bad : Bool) (w : World) (h : RS w r q [] bad) : Calls Tryd.prog 35 #[.pointer (some ⟨r, 0, none⟩)] w fun e w' => e = .returned (.string ⟨#[]⟩) ∧ RS w' r q [] true ∧ Only (fun k => k = r) w w' := by
  refine (lnext_any r q [] bad w h).mono ?_
  rintro e w' ⟨h1, h2, h3⟩
  have h2 : RS w' r q [] (bad || true) := h2
  rw [Bool.or_true] at h2
  exact ⟨h1, h2, h3⟩
theorem lnext_cons (r q : Nat) (x : List UInt8) (t : List (List UInt8)) (bad : Bool) (w : World) (h : RS w r q (x :: t) bad) : Calls Tryd.prog 35 #[.pointer (some ⟨r, 0, none⟩)] w fun e w' => e = .returned (.string (txB x)) ∧ RS w' r q t bad ∧ Only (fun k => k = r) w w' := by
  refine (lnext_any r q (x :: t) bad w h).mono ?_
  rintro e w' ⟨h1, h2, h3⟩
  have h2 : RS w' r q t (bad || false) := h2
  rw [Bool.or_false] at h2
  exact ⟨h1, h2, h3⟩
theorem rdR_two (a b : UInt8) : rdR [a, b] = if a = 114 ∧ 48 ≤ b.toNat ∧ b.toNat < 56 then some (b.toNat - 48) else none := rfl
theorem rdR_len {x : List UInt8} (h : x.length ≠ 2) : rdR x = none := by
  match x, h with
  | [], _ => rfl
  | [a], _ => rfl
  | [a, b], h => exact absurd rfl h
  | a :: b :: c :: r, _ => rfl
theorem beqF {a b : Int} (h : a ≠ b) : (a == b) = false := by rw [beq_eq_false_iff_ne]; exact h
set_option maxHeartbeats 2000000 in
theorem lrreg_any (r q : Nat) (rem : List (List UInt8)) (bad : Bool) (w : World) (h : RS w r q rem bad) : Calls Tryd.prog 36 #[.pointer (some ⟨r, 0, none⟩)] w fun e w' => ∃ v rem' bad', e = .returned (.int .i64 (v : Nat)) ∧ RF w r q rdR 8 rem bad v rem' bad' w' := by
  cases rem with
  | nil =>
    have hm := lnext_nil r q bad w h
    go_enter Tryd.func36, Tryd.ntmps36
    go_wp2_with fail
    refine hm.mono ?_
    rintro e w1 ⟨rfl, h1, o1⟩
    obtain ⟨y1, f1⟩ := h1.cells
    go_wp2_with fail
    go_ret
    exact ⟨0, _, _, rfl, RF.fail rfl (by decide) h1 o1⟩
  | cons x t =>
    have hm := lnext_cons r q x t bad w h
    have hz := txB_size x
    clear h
    by_cases hx : x.length = 2
    · obtain ⟨a, b, rfl⟩ : ∃ a b, x = [a, b] := by
        match x, hx with
        | [a, b], _ => exact ⟨a, b, rfl⟩
      have hz : (txB [a, b]).size = 2 := hz
      have HXX := Lib.hid (show ∀ h0 : 0 < (txB [a, b]).size, ∀ h1 : 1 < (txB [a, b]).size, (txB [a, b])[0] = a ∧ (txB [a, b])[1] = b from fun _ _ => ⟨rfl, rfl⟩)
      obtain ⟨X, hX⟩ : ∃ X, X = txB [a, b] := ⟨_, rfl⟩
      rw [← hX] at hz HXX hm
      clear hX hx
      have hX0 : 0 < X.size := by omega
      have hX1 : 1 < X.size := by omega
      have e0 := (HXX.out hX0 hX1).1
      have e1 := (HXX.out hX0 hX1).2
      have hX0I : (0 : Int) < X.size := by omega
      have hX1I : (1 : Int) < X.size := by omega
      have hlI : ((X.size : Int) == 2) = true := by rw [hz]; rfl
      have hlIn : ((X.size : Int) != 2) = false := by rw [hz]; rfl
      have E0 := Lib.hid e0
      have E1 := Lib.hid e1
      clear e0 e1 hz
      by_cases c0 : X[0].toNat = 114
      · have d0 : ((X[0].toNat : Int) == 114) = true := by rw [c0]; rfl
        have d0n : ((X[0].toNat : Int) != 114) = false := by rw [c0]; rfl
        by_cases c1 : X[1].toNat < 48
        · have d1 : (X[1].toNat : Int) < 48 := by omega
          have HN := Lib.hid (show tkF true rdR ([a, b] :: t) = none from tkF_none (by rw [rdR_two, if_neg]; rintro ⟨_, h, _⟩; rw [← E1.out] at h; omega))
          clear c0 c1
          go_enter Tryd.func36, Tryd.ntmps36
          go_wp2_with fail
          refine hm.mono ?_
          rintro e w1 ⟨rfl, h1, o1⟩
          obtain ⟨y1, f1⟩ := h1.cells
          go_wp2_with fail
          go_ret
          exact ⟨0, _, _, rfl, RF.fail HN.out (by decide) h1 o1⟩
        · by_cases c2 : X[1].toNat < 56
          · have d1 : ¬ (X[1].toNat : Int) < 48 := by omega
            have d2 : ¬ (56 : Int) ≤ (X[1].toNat : Int) := by omega
            have HN := Lib.hid (show rdR [a, b] = some (X[1].toNat - 48) by
              rw [rdR_two, if_pos, E1.out]
              exact ⟨by rw [← E0.out]; apply UInt8.toNat_inj.1; rw [c0]; rfl, by rw [← E1.out]; omega, by rw [← E1.out]; omega⟩)
            obtain ⟨m, hm8⟩ : ∃ m, X[1].toNat = 48 + m := ⟨X[1].toNat - 48, by omega⟩
            have HV := Lib.hid (show (X[1].toNat : Int) - 48 = m by omega)
            have HN := Lib.hid (show rdR [a, b] = some m by rw [HN.out]; congr 1; omega)
            have hm9 : m < 8 := by omega
            clear c0 c1 c2 hm8
            go_enter Tryd.func36, Tryd.ntmps36
            go_wp2_with fail
            refine hm.mono ?_
            rintro e w1 ⟨rfl, h1, o1⟩
            go_wp2_with fail
            go_ret
            refine ⟨m, _, _, ?_, RF.good HN.out hm9 h1 o1⟩
            rw [← HV.out]
            rfl
          · have d1 : ¬ (X[1].toNat : Int) < 48 := by omega
            have d2 : (56 : Int) ≤ (X[1].toNat : Int) := by omega
            have HN := Lib.hid (show tkF true rdR ([a, b] :: t) = none from tkF_none (by rw [rdR_two, if_neg]; rintro ⟨_, _, h⟩; rw [← E1.out] at h; omega))
            clear c0 c1 c2
            go_enter Tryd.func36, Tryd.ntmps36
            go_wp2_with fail
            refine hm.mono ?_
            rintro e w1 ⟨rfl, h1, o1⟩
            obtain ⟨y1, f1⟩ := h1.cells
            go_wp2_with fail
            go_ret
            exact ⟨0, _, _, rfl, RF.fail HN.out (by decide) h1 o1⟩
      · have d0 : ((X[0].toNat : Int) == 114) = false := beqF (by omega)
        have d0n : ((X[0].toNat : Int) != 114) = true := by rw [bne, d0]; rfl
        have HN := Lib.hid (show tkF true rdR ([a, b] :: t) = none from tkF_none (by rw [rdR_two, if_neg]; rintro ⟨h, _, _⟩; rw [← E0.out] at h; rw [h] at c0; exact c0 rfl))
        clear c0
        go_enter Tryd.func36, Tryd.ntmps36
        go_wp2_with fail
        refine hm.mono ?_
        rintro e w1 ⟨rfl, h1, o1⟩
        obtain ⟨y1, f1⟩ := h1.cells
        go_wp2_with fail
        go_ret
        exact ⟨0, _, _, rfl, RF.fail HN.out (by decide) h1 o1⟩
    · have HN := Lib.hid (show tkF true rdR (x :: t) = none from tkF_none (rdR_len hx))
      have hlI : (((txB x).size : Int) == 2) = false := beqF (by omega)
      have hlIn : (((txB x).size : Int) != 2) = true := by rw [bne, hlI]; rfl
      clear hx hz
      go_enter Tryd.func36, Tryd.ntmps36
      go_wp2_with fail
      refine hm.mono ?_
      rintro e w1 ⟨rfl, h1, o1⟩
      obtain ⟨y1, f1⟩ := h1.cells
      go_wp2_with fail
      go_ret
      exact ⟨0, _, _, rfl, RF.fail HN.out (by decide) h1 o1⟩
theorem rdD_hit : ∀ i : Nat, i ≤ 2 → rdD (mdB i).data.toList = some i := by decide +kernel
theorem rdD_none {x : List UInt8} (h : ∀ j : Nat, j < 3 → (mdB j) ≠ txB x) : rdD x = none := by
  have k : ∀ j : Nat, j < 3 → ¬ x = (mdB j).data.toList := fun j hj e => h j hj (by
    rw [e]
    apply ByteArray.ext
    simp [txB])
  unfold rdD
  rw [if_neg (show ¬ x = (mdB 0).data.toList from k 0 (by decide)), if_neg (show ¬ x = (mdB 1).data.toList from k 1 (by decide)), if_neg (show ¬ x = (mdB 2).data.toList from k 2 (by decide))]
set_option maxHeartbeats 2000000 in
theorem lrmode_any (r q : Nat) (rem : List (List UInt8)) (bad : Bool) (w : World) (h : RS w r q rem bad) : Calls Tryd.prog 37 #[.pointer (some ⟨r, 0, none⟩)] w fun e w' => ∃ v rem' bad', e = .returned (.int .i64 (v : Nat)) ∧ RF w r q rdD 3 rem bad v rem' bad' w' := by
  obtain ⟨X, rem1, bad1, hm, hE⟩ : ∃ X rem1 bad1, (Calls Tryd.prog 35 #[.pointer (some ⟨r, 0, none⟩)] w fun e w' => e = .returned (.string X) ∧ RS w' r q rem1 bad1 ∧ Only (fun k => k = r) w w') ∧
      Hid ((∀ i : Nat, i < 3 → mdB i = X → ∀ w1, RS w1 r q rem1 bad1 → Only (fun k => k = r) w w1 → RF w r q rdD 3 rem bad i rem1 bad1 w1) ∧ ((∀ j : Nat, j < 3 → mdB j ≠ X) → tkF true rdD rem = none)) := by
    cases rem with
    | nil => exact ⟨_, _, _, lnext_nil r q bad w h, Lib.hid ⟨fun i hi e => (by
        exfalso
        match i, hi with
        | 0, _ => exact absurd e (by decide)
        | 1, _ => exact absurd e (by decide)
        | 2, _ => exact absurd e (by decide)), fun _ => rfl⟩⟩
    | cons x t => exact ⟨_, _, _, lnext_cons r q x t bad w h, Lib.hid ⟨fun i hi e w1 h1 o1 => RF.good (by
        have : x = (mdB i).data.toList := by rw [e]; simp [txB]
        rw [this]
        exact rdD_hit i (by omega)) hi h1 o1, fun k => tkF_none (rdD_none k)⟩⟩
  clear h
  go_enter Tryd.func37, Tryd.ntmps37
  go_wp2_with fail
  refine hm.mono ?_
  rintro e w1 ⟨rfl, h1, o1⟩
  go_wp2_with fail
  refine (lmodes_any _).mono ?_
  rintro e w2 ⟨rfl, hk⟩
  have o2 := o1.trans (Only.of_below hk (fun k => k = r)) (fun _ _ h => h)
  have h2 := h1.on (Only.of_below hk (fun _ => False)) (fun h => h) (fun h => h)
  clear hk h1 o1 hm
  go_wp2_with fail
  go_loopw [9] (fun x wr => ∃ i : Nat, x = .int .i64 i ∧ i ≤ 3 ∧ Hid (∀ j : Nat, j < i → mdB j ≠ X) ∧ wr = w2) (fun x _ => 3 - (intOf x).toNat)
  case atStart => exact ⟨0, rfl, by omega, Lib.hid (fun j hj => absurd hj (Nat.not_lt_zero _)), rfl⟩
  case round =>
    obtain ⟨i, rfl, hi, HN, rfl⟩ := hrel
    by_cases hlt : i < 3
    · have hix := md_z (i : Int) (by omega) (by omega) wr
      have hI : (i : Int) < 3 := by omega
      by_cases hX : mdB i = X
      · have hc := ba_eq hX.symm
        have HF := Lib.hid (hE.out.1 i hlt hX wr h2 o2)
        clear hX
        go_wp2_with fail
        go_ret
        exact ⟨i, _, _, rfl, HF.out⟩
      · have hc := ba_ne (fun e => hX e.symm)
        have HN2 := Lib.hid (show ∀ j : Nat, j < i + 1 → mdB j ≠ X from fun j hj => by
          by_cases e : j = i
          · rw [e]; exact hX
          · exact HN.out j (by omega))
        clear hX HN
        go_wp2_with fail
        go_roundw
        case rel => exact ⟨i + 1, by go_num, by omega, HN2, trivial⟩
        case measure => simp [intOf]; omega
    · have HN2 := Lib.hid (hE.out.2 (fun j hj => HN.out j (by omega)))
      obtain ⟨y1, f1⟩ := h2.cells
      go_wp2_with fail
      go_ret
      exact ⟨0, _, _, rfl, RF.fail HN2.out (by decide) h2 o2⟩
end Go.Proofs.YtghfkpddkmaflaaDoor
