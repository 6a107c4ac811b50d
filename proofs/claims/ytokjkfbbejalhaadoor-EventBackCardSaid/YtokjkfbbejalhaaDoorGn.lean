/- Contract of event.number. Conditions: the library's variables' data. -/
import Derived.Test.YtokjkfbbejalhaaDoorGl
namespace Go.Proofs.YtokjkfbbejalhaaDoor
open Go.RowKit Go.Sort
set_option linter.unusedVariables false
set_option linter.unusedSimpArgs false
set_option maxRecDepth 20000
/-- What a word says, of so many bits. -/
def NumPost (B : Nat) (l : List UInt8) (w : World) (e : Ending) (w' : World) : Prop := ∃ n : Nat, e = .returned (.tuple #[.int .u64 n, .bool (numP B l).isSome]) ∧ (∀ u, numP B l = some u → n = u) ∧ n < 18446744073709551616 ∧ Below w.heap.size w w'
theorem bel_bytes {w w' : World} {t : TypeId} {s : ByteArray} (h : w' = w ∨ w' = Lib.bytesWorld w t s) : Below w.heap.size w w' := by
  rcases h with rfl | rfl
  · exact Below.refl _ _
  · exact ⟨rfl, rfl, rfl, by rw [Lib.bytesWorld_size]; omega, fun j hj => Lib.bytesWorld_at_old w t s j hj⟩
theorem ba_list (s : ByteArray) : s.toList = s.data.toList := ByteArray.toList_eq s
set_option maxHeartbeats 1000000 in
theorem number_any (B : Nat) (hB : B = 32 ∨ B = 64) (s : ByteArray) (hs : s.size ≤ 100000) (w : World) (g : Gl w) :
    Calls Tryd.prog 31 #[.string s, .int .i64 B] w (NumPost B s.data.toList w) := by
  cases hp : Lib.parseUintB B s.data.toList with
  | ok u =>
    have hu : u < 18446744073709551616 := by
      have h2 := Lib.parseUintB_le hp
      rcases hB with rfl | rfl <;> omega
    have hcall : ∀ W, Calls Tryd.prog 38 #[.string s, .int .i64 10, .int .i64 B] W fun e w' => e = .returned (.tuple #[.int .u64 u, .nilIface]) ∧ Below W.heap.size W w' := by
      intro W
      rcases hB with rfl | rfl
      · exact (Tryd.strconv_ParseUint_10_at32_ok s (by omega) u hp W).mono fun e w' h => ⟨h.1, bel_bytes h.2⟩
      · exact (Tryd.strconv_ParseUint_10_at64_ok s (by omega) u hp W).mono fun e w' h => ⟨h.1, bel_bytes h.2⟩
    have hN : ∀ b : Bool, b = decide (Lib.decDigits u = s.data.toList) → (numP B s.data.toList).isSome = b ∧ ∀ v, numP B s.data.toList = some v → u = v := by
      intro b hb
      unfold numP
      rw [hp]
      simp only
      by_cases hd : Lib.decDigits u = s.data.toList
      · rw [if_pos hd]; simp [hb, hd]
      · rw [if_neg hd]; simp [hb, hd]
    have HN := Lib.hid hN
    clear hN hp
    by_cases hd : Lib.decDigits u = s.data.toList
    · have hq : ByteArray.mk (Lib.decDigits u).toArray = s := by rw [hd]
      have HD := Lib.hid hd
      clear hd
      go_enter Tryd.func31, Tryd.ntmps31
      go_wp2_with fail
      refine (hcall _).mono ?_
      rintro e w1 ⟨rfl, hb⟩
      go_wp2_with fail
      refine (fmt_any u hu _ (g.on hb)).mono ?_
      rintro e w2 ⟨rfl, hb2⟩
      rw [hq]
      clear hq
      go_wp2_with fail
      go_ret2
      exact ⟨u, congrArg (fun b => Ending.returned (.tuple #[.int .u64 u, .bool b])) (HN.out true (by simp [HD.out])).1.symm, (HN.out true (by simp [HD.out])).2, hu, hb.trans (hb2.mono hb.size)⟩
    · go_enter Tryd.func31, Tryd.ntmps31
      go_wp2_with fail
      refine (hcall _).mono ?_
      rintro e w1 ⟨rfl, hb⟩
      go_wp2_with fail
      refine (fmt_any u hu _ (g.on hb)).mono ?_
      rintro e w2 ⟨rfl, hb2⟩
      go_wp2_with fail
      go_ret2
      exact ⟨u, congrArg (fun b => Ending.returned (.tuple #[.int .u64 u, .bool b])) (HN.out (Lib.decDigits u == s.toList) (by rw [ba_list]; rw [Bool.eq_iff_iff]; simp)).1.symm, (HN.out _ rfl).2, hu, hb.trans (hb2.mono hb.size)⟩
  | «syntax» =>
    obtain ⟨tp, p, hv⟩ := g.syn
    have hcall : ∀ W, W.cell? ⟨2, 0, none⟩ = some (.iface tp p) → Calls Tryd.prog 38 #[.string s, .int .i64 10, .int .i64 B] W fun e w' => ∃ N : Nat, e = .returned (.tuple #[.int .u64 0, .iface 89 (.pointer (some ⟨N, 0, none⟩))]) ∧ Below W.heap.size W w' := by
      intro W hW
      rcases hB with rfl | rfl
      · exact (Tryd.strconv_ParseUint_10_at32_syntax s (by omega) hp _ W hW (Or.inr ⟨_, _, rfl⟩)).mono fun e w' ⟨N, h⟩ => ⟨N, h.1, h.2.2.2⟩
      · exact (Tryd.strconv_ParseUint_10_at64_syntax s (by omega) hp _ W hW (Or.inr ⟨_, _, rfl⟩)).mono fun e w' ⟨N, h⟩ => ⟨N, h.1, h.2.2.2⟩
    have hN : numP B s.data.toList = none := by unfold numP; rw [hp]
    have HN := Lib.hid hN
    clear hN hp
    have hc := hcall w hv
    clear hcall hv
    go_enter Tryd.func31, Tryd.ntmps31
    go_wp2_with fail
    refine hc.mono ?_
    rintro e w1 ⟨N, rfl, hb⟩
    go_wp2_with fail
    go_ret2
    exact ⟨0, congrArg (fun b => Ending.returned (.tuple #[.int .u64 0, .bool b])) (by rw [HN.out]; rfl), fun v hv => (by rw [HN.out] at hv; cases hv), by decide, hb⟩
  | range =>
    obtain ⟨tp, p, hv⟩ := g.rng
    have hcall : ∀ W, W.cell? ⟨3, 0, none⟩ = some (.iface tp p) → Calls Tryd.prog 38 #[.string s, .int .i64 10, .int .i64 B] W fun e w' => ∃ N : Nat, e = .returned (.tuple #[.int .u64 (2 ^ B - 1 : Nat), .iface 89 (.pointer (some ⟨N, 0, none⟩))]) ∧ Below W.heap.size W w' := by
      intro W hW
      rcases hB with rfl | rfl
      · exact (Tryd.strconv_ParseUint_10_at32_range s (by omega) hp _ W hW (Or.inr ⟨_, _, rfl⟩)).mono fun e w' ⟨N, h⟩ => ⟨N, h.1, h.2.2.2⟩
      · exact (Tryd.strconv_ParseUint_10_at64_range s (by omega) hp _ W hW (Or.inr ⟨_, _, rfl⟩)).mono fun e w' ⟨N, h⟩ => ⟨N, h.1, h.2.2.2⟩
    have hN : numP B s.data.toList = none := by unfold numP; rw [hp]
    have HN := Lib.hid hN
    clear hN hp
    have hc := hcall w hv
    clear hcall hv
    go_enter Tryd.func31, Tryd.ntmps31
    go_wp2_with fail
    refine hc.mono ?_
    rintro e w1 ⟨N, rfl, hb⟩
    go_wp2_with fail
    go_ret2
    exact ⟨2 ^ B - 1, congrArg (fun b => Ending.returned (.tuple #[.int .u64 ((2 ^ B - 1 : Nat) : Int), .bool b])) (show false = (numP B s.data.toList).isSome by rw [HN.out]; rfl), fun v hv => (by rw [HN.out] at hv; cases hv), by rcases hB with rfl | rfl <;> decide, hb⟩
end Go.Proofs.YtokjkfbbejalhaaDoor
