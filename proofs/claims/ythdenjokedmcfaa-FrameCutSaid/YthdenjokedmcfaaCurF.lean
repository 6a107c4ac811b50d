/- More contracts of package cursor: Agree and Find; and of the reference of layer 1. Find asks that the library's own variable MaxLen holds some int. -/
import Derived.Test.YthdenjokedmcfaaCur
import Derived.Test.YthdenjokedmcfaaNum
import Derived.Test.YthdenjokedmcfaaShelf
import Derived.Lib.IndexMore
namespace Go.Proofs.Ythdenjokedmcfaa
open Go.RowKit
set_option maxRecDepth 20000
/-- With how many bytes of the first list the second one goes on. -/
def agrL : List UInt8 → List UInt8 → Nat
  | a :: l, b :: m => if a = b then agrL l m + 1 else 0
  | _, _ => 0
def agree (s : ByteArray) (p : Nat) (t : ByteArray) : Nat := agrL t.data.toList (s.data.toList.drop p)
theorem agrL_le : ∀ (t r : List UInt8), agrL t r ≤ t.length ∧ agrL t r ≤ r.length
  | [], _ => ⟨Nat.zero_le _, Nat.zero_le _⟩
  | _ :: _, [] => ⟨Nat.zero_le _, Nat.zero_le _⟩
  | a :: l, b :: m => by
    have := agrL_le l m
    rw [agrL]
    split <;> simp <;> omega
theorem agrL_step {t r : List UInt8} {k : Nat} (h1 : k < t.length) (h2 : k < r.length) (he : t[k] = r[k]) : agrL (t.drop k) (r.drop k) = agrL (t.drop (k + 1)) (r.drop (k + 1)) + 1 := by
  rw [List.drop_eq_getElem_cons h1, List.drop_eq_getElem_cons h2, agrL, if_pos he]
theorem agrL_ne {t r : List UInt8} {k : Nat} (h1 : k < t.length) (h2 : k < r.length) (he : t[k] ≠ r[k]) : agrL (t.drop k) (r.drop k) = 0 := by
  rw [List.drop_eq_getElem_cons h1, List.drop_eq_getElem_cons h2, agrL, if_neg he]
theorem agrL_nil1 {t r : List UInt8} {k : Nat} (h1 : t.length ≤ k) : agrL (t.drop k) r = 0 := by
  rw [List.drop_eq_nil_of_le h1, agrL]
  intro _ _ _ _ h; cases h
theorem agrL_nil2 {t r : List UInt8} {k : Nat} (h1 : r.length ≤ k) : agrL t (r.drop k) = 0 := by
  rw [List.drop_eq_nil_of_le h1, agrL]
  intro _ _ _ _ _ h; cases h
theorem ba_get (s : ByteArray) (k : Nat) (h : k < s.size) : s.data.toList[k]'(by simpa using h) = s[k] := by simp; rfl
theorem agree_nil (t : Value) (w : World) : Calls Try.prog 76 #[.pointer none, t] w fun e w' => e = .returned (.int .i64 0) ∧ w = w' := by
  go_enter Try.func76, Try.ntmps76
  go_wp2
  go_ret
  exact ⟨rfl, rfl⟩
set_option maxHeartbeats 1000000 in
theorem agree_any {w : World} {b : Nat} {s : ByteArray} {p : Nat} (h : IsRd w b s p) (hp : p ≤ s.size) (hs : s.size ≤ 140737488355328) (t : ByteArray) (ht : t.size ≤ 9223372036854775807) :
    Calls Try.prog 76 #[.pointer (some ⟨b, 0, none⟩), .string t] w fun e w' => e = .returned (.int .i64 (agree s p t)) ∧ ∃ n, w.drewN n = w' := by
  have h0 := h.c0
  have h1 := h.c1
  obtain ⟨r, hr⟩ : ∃ r, r = s.extract p s.size := ⟨_, rfl⟩
  have hrd : r.data.toList = s.data.toList.drop p := by
    rw [hr, Lib.extract_data]
    exact List.take_of_length_le (by simp)
  have hrs : r.size ≤ s.size := by rw [hr]; simp
  have Hag := Lib.hid (show agree s p t = agrL t.data.toList r.data.toList by rw [hrd]; rfl)
  have Hr := Lib.hid hr
  clear hr hrd
  go_enter Try.func76, Try.ntmps76
  go_wp2
  go_quiet (fail)
  go_wp2
  rw [← Hr.out]
  go_loopw [6] (fun n wr => ∃ k : Nat, n = .int .i64 k ∧ k ≤ t.size ∧ k ≤ r.size ∧ agrL t.data.toList r.data.toList = k + agrL (t.data.toList.drop k) (r.data.toList.drop k) ∧ ∃ j, wr = w.drewN j) (fun n _ => t.size - (intOf n).toNat)
  case atStart => exact ⟨0, rfl, by omega, by omega, by simp, _, rfl⟩
  case round =>
    obtain ⟨k, rfl, hk1, hk2, he, j, rfl⟩ := hrel
    have He := Lib.hid he
    clear he h0 h1
    have htl : t.data.toList.length = t.size := by simp
    have hrl : r.data.toList.length = r.size := by simp
    by_cases c1 : k < t.size
    · by_cases c2 : k < r.size
      · by_cases c3 : t[k] = r[k]
        · have hst := Lib.hid (agrL_step (t := t.data.toList) (r := r.data.toList) (k := k) (by omega) (by omega) (by rw [ba_get t k c1, ba_get r k c2]; exact c3))
          have hd : ((t[k].toNat : Int) == (r[k].toNat : Int)) = true := by simp [c3]
          clear htl hrl c3
          go_wp2
          go_quiet (fail)
          go_wp2
          go_roundw
          case rel => exact ⟨k + 1, by go_num, by omega, by omega, by rw [He.out, hst.out]; omega, _, rfl⟩
          case measure => simp [intOf]; omega
        · have hst := Lib.hid (agrL_ne (t := t.data.toList) (r := r.data.toList) (k := k) (by omega) (by omega) (by rw [ba_get t k c1, ba_get r k c2]; exact c3))
          have hd : ((t[k].toNat : Int) == (r[k].toNat : Int)) = false := by
            rw [beq_eq_false_iff_ne]; intro e; exact c3 (UInt8.toNat_inj.1 (Int.ofNat_inj.1 e))
          clear htl hrl c3
          go_wp2
          go_quiet (fail)
          go_wp2
          go_ret
          exact ⟨ret_int (by rw [Hag.out, He.out, hst.out]; simp), _, (World.drewN_drewN _ _ _).symm⟩
      · have hst := Lib.hid (agrL_nil2 (t := t.data.toList.drop k) (r := r.data.toList) (k := k) (by omega))
        have hd1 : decide ((k : Int) < r.size) = false := by simp; omega
        have hd2 : decide (k < r.size) = false := by simp; omega
        clear htl hrl
        go_wp2
        go_quiet (fail)
        go_wp2
        go_ret
        exact ⟨ret_int (by rw [Hag.out, He.out, hst.out]; simp), _, (World.drewN_drewN _ _ _).symm⟩
    · have hst := Lib.hid (agrL_nil1 (t := t.data.toList) (r := r.data.toList.drop k) (k := k) (by omega))
      have hd1 : decide ((k : Int) < t.size) = false := by simp; omega
      have hd2 : decide (k < t.size) = false := by simp; omega
      clear htl hrl
      go_wp2
      go_quiet (fail)
      go_wp2
      go_ret
      exact ⟨ret_int (by rw [Hag.out, He.out, hst.out]; simp), _, (World.drewN_drewN _ _ _).symm⟩
/-- Where t stands next, from p on; -1: nowhere. -/
def find (s : ByteArray) (p : Nat) (t : ByteArray) : Int := if Lib.index (s.data.toList.drop p) t.data.toList < 0 then -1 else p + Lib.index (s.data.toList.drop p) t.data.toList
end Go.Proofs.Ythdenjokedmcfaa
