/- Contract of the reference's Number. No condition but those that it names. -/
import Derived.Test.YtokjkfbbejalhaaDoorTs
import Derived.IntWalk
namespace Go.Proofs.YtokjkfbbejalhaaDoor
open Go Go.RowKit
set_option linter.unusedVariables false
set_option linter.unusedSimpArgs false
set_option maxRecDepth 20000
def RNumPost (M : Nat) (l : List UInt8) (w : World) (e : Ending) (w' : World) : Prop := ∃ n : Nat, e = .returned (.tuple #[.int .u64 n, .bool (numS M l).isSome]) ∧ (∀ u, numS M l = some u → n = u) ∧ n < 18446744073709551616 ∧ w = w'
theorem rnum_no {M : Nat} {l : List UInt8} (h : numS M l = none) (w : World) : RNumPost M l w (.returned (.tuple #[.int .u64 0, .bool false])) w :=
  ⟨0, by rw [h]; rfl, (fun u hu => by rw [h] at hu; cases hu), by decide, rfl⟩
set_option maxHeartbeats 2000000 in
theorem rnumber_any (s : ByteArray) (hs : s.size ≤ 100000) (M : Nat) (h9 : 9 ≤ M) (hM : M < 18446744073709551616) (w : World) : Calls Tryd.prog 33 #[.string s, .int .u64 M] w (RNumPost M s.data.toList w) := by
  have hlen : s.data.toList.length = s.size := by simp
  by_cases h0 : s.size = 0
  · have hE : s.toList = [] := by rw [ByteArray.toList_eq]; exact List.eq_nil_of_length_eq_zero (by omega)
    have HNo := Lib.hid (rnum_no (M := M) (l := s.data.toList) (by unfold numS; rw [if_pos (Or.inl (List.eq_nil_of_length_eq_zero (by omega)))]) w)
    clear h0 hlen
    go_enter Tryd.func33, Tryd.ntmps33
    go_wp2_with fail
    go_ret2
    exact HNo.out
  · have hpos : 0 < s.size := by omega
    have hposI : (0 : Int) < s.size := by omega
    have hne : s.data.toList ≠ [] := fun e => h0 (by rw [← hlen, e]; rfl)
    have hcons : s.data.toList = s[0] :: s.data.toList.drop 1 := by
      have := List.drop_eq_getElem_cons (l := s.data.toList) (i := 0) (by omega)
      rw [List.drop_zero] at this
      exact this
    have hE : s.toList.isEmpty = false := by rw [ByteArray.toList_eq, hcons]; rfl
    by_cases hz : s[0] = 48 ∧ 1 < s.size
    · have d0 : ((s[0].toNat : Int) == 48) = true := by rw [hz.1]; rfl
      have d1 : (1 : Int) < s.size := by omega
      have HNo := Lib.hid (rnum_no (M := M) (l := s.data.toList) (by unfold numS; rw [if_pos (Or.inr ⟨by rw [hcons, hz.1]; rfl, by omega⟩)]) w)
      clear h0 hlen hne hcons hz
      go_enter Tryd.func33, Tryd.ntmps33
      go_wp2_with fail
      go_ret2
      exact HNo.out
    · have HS := Lib.hid (show numS M s.data.toList = numR M 0 (s.data.toList.drop 0) by
        unfold numS
        rw [if_neg, List.drop_zero]
        rintro (h | ⟨h, h2⟩)
        · exact hne h
        · apply hz
          rw [hcons] at h
          exact ⟨Option.some.inj h, by omega⟩)
      have hb : ∃ b, b = ((s[0].toNat : Int) == 48) := ⟨_, rfl⟩
      have hzz : ((s[0].toNat : Int) == 48) = false ∨ (((s[0].toNat : Int) == 48) = true ∧ ¬ (1 : Int) < s.size) := by
        by_cases h1 : s[0] = 48
        · exact Or.inr ⟨by rw [h1]; rfl, fun h2 => hz ⟨h1, by omega⟩⟩
        · refine Or.inl ?_
          rw [beq_eq_false_iff_ne]
          intro e
          apply h1
          apply UInt8.toNat_inj.1
          have : (48 : UInt8).toNat = 48 := rfl
          omega
      have HL := Lib.hid hlen
      clear hne hcons hz h0 hb hlen
      rcases hzz with hzz | ⟨hzz, hz2⟩
      all_goals
        go_enter Tryd.func33, Tryd.ntmps33
        go_wp2_with fail
        go_loopw [6, 7] (fun x y wr => ∃ (n i : Nat), x = .int .u64 n ∧ y = .int .i64 i ∧ i ≤ s.size ∧ n ≤ M ∧ Hid (numS M s.data.toList = numR M n (s.data.toList.drop i)) ∧ w = wr) (fun _ y _ => s.size - (intOf y).toNat)
        case atStart => exact ⟨0, 0, rfl, rfl, Nat.zero_le _, Nat.zero_le _, HS, rfl⟩
        case round =>
          obtain ⟨n, i, rfl, rfl, hi, hn, HR, rfl⟩ := hrel
          clear hzz
          by_cases hlt : i < s.size
          · have hltI : (i : Int) < s.size := by omega
            have h0i : (0 : Int) ≤ i := by omega
            have HD := Lib.hid (show s.data.toList.drop i = s[i] :: s.data.toList.drop (i + 1) from List.drop_eq_getElem_cons (l := s.data.toList) (i := i) (by have := HL.out; omega))
            by_cases hd : 48 ≤ s[i].toNat ∧ s[i].toNat ≤ 57
            · obtain ⟨g1, g2⟩ := hd
              have g1I : (48 : Int) ≤ s[i].toNat := by omega
              have g2I : ¬ (57 : Int) < s[i].toNat := by omega
              by_cases ho : (M - (s[i].toNat - 48)) / 10 < n
              · have HNo := Lib.hid (rnum_no (M := M) (l := s.data.toList) (by rw [HR.out, HD.out, numR, if_pos ⟨g1, g2⟩, if_pos ho]) w)
                have hoI : ((M : Int) - (s[i].toNat - 48)) / 10 < n := by omega
                clear ho
                go_wp2_with fail
                go_ret2
                exact HNo.out
              · have HST := Lib.hid (show numS M s.data.toList = numR M (n * 10 + (s[i].toNat - 48)) (s.data.toList.drop (i + 1)) by rw [HR.out, HD.out, numR, if_pos ⟨g1, g2⟩, if_neg ho])
                have hoI : ¬ ((M : Int) - (s[i].toNat - 48)) / 10 < n := by omega
                have hle : n * 10 + (s[i].toNat - 48) ≤ M := by omega
                clear ho
                go_wp2_with fail
                exact ⟨⟨n * 10 + (s[i].toNat - 48), i + 1, congrArg (Value.int .u64) (by omega), congrArg (Value.int .i64) (by omega), by omega, hle, HST, trivial⟩, by simp [intOf]; omega⟩
            · have HNo := Lib.hid (rnum_no (M := M) (l := s.data.toList) (by rw [HR.out, HD.out, numR, if_neg hd]) w)
              have hd : (s[i].toNat : Int) < 48 ∨ (¬ (s[i].toNat : Int) < 48 ∧ (57 : Int) < s[i].toNat) := by omega
              rcases hd with hd | ⟨hd, hd2⟩
              all_goals
                go_wp2_with fail
                go_ret2
                exact HNo.out
          · go_wp2_with fail
            go_ret2
            refine ⟨n, ?_, fun u hu => ?_, by omega, rfl⟩
            · rw [HR.out, List.drop_of_length_le (by have := HL.out; omega)]
              rfl
            · rw [HR.out, List.drop_of_length_le (by have := HL.out; omega)] at hu
              exact Option.some.inj hu
end Go.Proofs.YtokjkfbbejalhaaDoor
