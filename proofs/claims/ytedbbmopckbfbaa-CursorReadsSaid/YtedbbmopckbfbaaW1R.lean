/- The walk of CursorReads. -/
import Derived.Test.YtedbbmopckbfbaaW1W
import Derived.Deep.DeepMust
namespace Go.Proofs.Ytedbbmopckbfbaa
open Go.RowKit
set_option maxRecDepth 20000
/-- A call of the script. -/
structure OpV where
  k : Int
  n : Int
  t : ByteArray
instance : Inhabited OpV := ⟨⟨0, 0, ⟨#[]⟩⟩⟩
def OpV.f (o : OpV) : Nat → Value
  | 0 => .int .i64 o.k
  | 1 => .int .i64 o.n
  | _ => .string o.t
theorem slArg_struct78 {H : Type} {enc : TypeId × Value → H} {W : World} {base : Nat} {held : Bool} {v : Value} {d : DataW H} {ps : List MemPlace}
    (hv : ∃ a len cap, v = .slice a len cap) (h : DataW.Trod enc Try.prog W base (fun _ => true) held 75 v d ps) :
    ∃ (oa : Option Addr) (len cap : Nat) (z : Nat → OpV), v = .slice oa len cap ∧ SlArgN W oa len cap 3 (fun i j => (z i).f j) ∧ SlLen d cap ∧ ∀ i, i < len → (Lit.int .i64 (z i).n).wf = true ∧ (z i).t.size ≤ maxLen := by
  obtain ⟨oa, len, cap, L, rfl, hs, hd, hx⟩ := slArgN_any (c := 3) Try.underlying75 (by kernel_rfl) (by decide) hv h
  have key : ∀ i, i < len → ∃ o : OpV, (∀ j, j < 3 → (L i).getD j (.bool false) = o.f j) ∧ (Lit.int .i64 o.n).wf = true ∧ o.t.size ≤ maxLen := by
    intro i hi
    obtain ⟨hl, n, x, hn⟩ := hx i hi
    match hL : L i, hl with
    | [c0, c1, c2], _ =>
      rw [hL] at hn
      obtain ⟨ys, n', _, _, _, hyl, hf⟩ := DataW.trod_struct Try.underlying78 hn
      have hyl : ys.length = 3 := hyl
      have k1 : Try.prog.cellsOf 3 = 1 := by kernel_rfl
      have k2 : Try.prog.cellsOf 9 = 1 := by kernel_rfl
      have h0 : DataW.trod enc Try.prog W base (fun _ => true) held n' 3 (List.take (Try.prog.cellsOf 3) [c0, c1, c2]) = ys[0]? := hf 0 _ rfl
      have h1 : DataW.trod enc Try.prog W base (fun _ => true) held n' 3 (List.take (Try.prog.cellsOf 3) [c1, c2]) = ys[1]? := hf 1 _ rfl
      have h2 : DataW.trod enc Try.prog W base (fun _ => true) held n' 9 (List.take (Try.prog.cellsOf 9) [c2]) = ys[2]? := hf 2 _ rfl
      rw [k1, List.getElem?_eq_getElem (by omega)] at h0 h1
      rw [k2, List.getElem?_eq_getElem (by omega)] at h2
      obtain ⟨z0, e0, _, w0⟩ := DataW.trod_int Try.underlying3 h0
      obtain ⟨z1, e1, _, w1⟩ := DataW.trod_int Try.underlying3 h1
      obtain ⟨z2, e2, _, w2⟩ := DataW.trod_string Try.underlying9 h2
      simp at e0 e1 e2
      subst e0 e1 e2
      refine ⟨⟨z0, z1, z2⟩, fun j hj => ?_, w1, w2⟩
      match j, hj with
      | 0, _ => rfl
      | 1, _ => rfl
      | 2, _ => rfl
  obtain ⟨z, hz⟩ := Go.Deep.choose_lt (α := OpV) (p := fun i o => (∀ j, j < 3 → (L i).getD j (.bool false) = o.f j) ∧ (Lit.int .i64 o.n).wf = true ∧ o.t.size ≤ maxLen) key
  exact ⟨oa, len, cap, z, rfl, hs.congr fun i hi => (hz i hi).1, hd, fun i hi => (hz i hi).2⟩
def costO (z : Nat → OpV) : Nat → Nat
  | 0 => 0
  | i + 1 => costO z i + min (z i).t.size 65536
theorem costO_le (z : Nat → OpV) : ∀ i, costO z i ≤ 65536 * i
  | 0 => Nat.le_refl _
  | i + 1 => by have := costO_le z i; simp only [costO]; omega
theorem costO_mono (z : Nat → OpV) {i : Nat} : ∀ {j : Nat}, i ≤ j → costO z i ≤ costO z j
  | 0, h => by obtain rfl : i = 0 := by omega
               exact Nat.le_refl _
  | j + 1, h => by
    rcases Nat.lt_or_ge j i with h1 | h1
    · obtain rfl : i = j + 1 := by omega
      exact Nat.le_refl _
    · have := costO_mono z h1; simp only [costO]; omega
theorem costO_one (z : Nat → OpV) {i n : Nat} (h : costO z n ≤ 2000) (hi : i < n) : (z i).t.size ≤ 2000 := by
  have := costO_mono z (show i + 1 ≤ n from hi)
  simp only [costO] at this; omega
set_option maxHeartbeats 1000000 in
theorem long_any (s : ByteArray) (oa : Option Addr) (len cap : Nat) (z : Nat → OpV) (w : World) (hs : s.size ≤ maxLen) (hsl : SlArgN w oa len cap 3 (fun i j => (z i).f j)) (hr : cap * 32 ≤ 140737488351232) (hz : ∀ i, i < len → (Lit.int .i64 (z i).n).wf = true ∧ (z i).t.size ≤ maxLen) :
    Calls Try.prog 51 #[.string s, .slice oa len cap] w fun e w' => e = .returned (.bool (decide ((1000 : Int) < s.size) || decide ((2000 : Int) < (len : Int) + (costO z len : Int)))) ∧ Below w.heap.size w w' := by
  unfold maxLen at hs hz
  have hB := Below.refl w.heap.size w
  have hlc := hsl.1
  have hll : len ≤ 8796093021952 := by omega
  clear hr hlc
  go_enter Try.func51, Try.ntmps51
  go_wp2
  go_loopw [5, 12] (fun n x wr => ∃ i : Nat, n = .int .i64 ((len + costO z i : Nat) : Int) ∧ x = .int .i64 i ∧ i ≤ len ∧ Below w.heap.size w wr) (fun _ x _ => len - (intOf x).toNat)
  case atStart => exact ⟨0, rfl, rfl, by omega, hB⟩
  case round =>
    clear hB
    obtain ⟨i, rfl, rfl, hi, hB⟩ := hrel
    by_cases hlt : i < len
    · obtain ⟨g, off, rfl, hg, hc⟩ := hsl.below hB (Nat.le_refl _) hlt
      have hc0 := hc 0 (by decide)
      have hc1 := hc 1 (by decide)
      have hc2 := hc 2 (by decide)
      simp only [OpV.f, Nat.add_zero] at hc0 hc1 hc2
      clear hc
      have hlt' : (i : Int) < len := by omega
      have hzi := (hz i hlt).2
      have hB2 := hB.alloc hB.size (.cells #[.int .i64 (z i).k, .int .i64 (z i).n, .string (z i).t] 78)
      have hcb := costO_le z i
      go_wp2
      go_round
      case rel => exact ⟨i + 1, by congr 1; simp only [costO]; omega, by go_num, by omega, hB2⟩
      case measure => simp [intOf]; omega
    · obtain rfl : i = len := by omega
      have hcb := costO_le z i
      go_wp2
      all_goals (go_ret; exact ⟨rfl, hB⟩)
set_option maxHeartbeats 1000000 in
theorem r1agree_any (s : ByteArray) (p : Nat) (hp : p ≤ s.size) (hs : s.size ≤ 140737488355328) (t : ByteArray) (ht : t.size ≤ 140737488355328) (w : World) :
    Calls Try.prog 55 #[.string s, .int .i64 p, .string t] w fun e w' => e = .returned (.int .i64 (agree s p t)) ∧ ∃ n, w.drewN n = w' := by
  obtain ⟨R, hR⟩ : ∃ R, R = s.data.toList.drop p := ⟨_, rfl⟩
  have Hag : Hid (agree s p t = agrL t.data.toList R) := Lib.hid (by rw [hR]; rfl)
  have HR := Lib.hid hR
  have hRl : R.length = s.size - p := by rw [hR]; simp
  clear hR
  go_enter Try.func55, Try.ntmps55
  go_wp2
  go_loopw [7, 8] (fun n x wr => ∃ k : Nat, n = .int .i64 k ∧ x = .int .i64 k ∧ k ≤ t.size ∧ p + k ≤ s.size ∧ agrL t.data.toList R = k + agrL (t.data.toList.drop k) (R.drop k) ∧ ∃ j, wr = w.drewN j) (fun n _ _ => t.size - (intOf n).toNat)
  case atStart => exact ⟨0, rfl, rfl, by omega, by omega, by simp, 0, rfl⟩
  case round =>
    obtain ⟨k, rfl, rfl, hk1, hk2, he, j, rfl⟩ := hrel
    have He := Lib.hid he
    clear he
    have htl : t.data.toList.length = t.size := by simp
    obtain ⟨q, hq⟩ : ∃ q, q = p + k := ⟨_, rfl⟩
    have hw : wrap64 ((p : Int) + k) = (q : Int) := by unfold wrap64; omega
    have hR0 : k ≤ R.length := by omega
    have hRq : R.length = k ↔ ¬ q < s.size := by omega
    have hRk : ∀ (h : q < s.size) (h2 : k < R.length), R[k] = s[q] := by
      intro h h2
      subst hq
      rw [← ba_get s (p + k) h]
      simp only [HR.out, List.getElem_drop]
    have Hp := Lib.hid hp
    have Hk2 := Lib.hid hk2
    have Hs := Lib.hid hs
    have Hq := Lib.hid hq
    have Hl := Lib.hid hRl
    clear hp hk2 hs hq hRl
    by_cases c1 : k < t.size
    · by_cases c2 : q < s.size
      · have hRl2 : k < R.length := by omega
        have hRk2 := hRk c2 hRl2
        have hd1 : decide ((s.size : Int) ≤ q) = false := by simp; omega
        have hd2 : decide (s.size ≤ q) = false := by simp; omega
        by_cases c3 : t[k] = s[q]
        · have hst := Lib.hid (agrL_step (t := t.data.toList) (r := R) (k := k) (by omega) (by omega) (by rw [ba_get t k c1, hRk2]; exact c3))
          have hd : ((s[q].toNat : Int) == (t[k].toNat : Int)) = true := by simp [c3]
          clear htl hR0 hRq hRk hRk2 hRl2 c3
          go_wp2
          go_quiet (fail)
          go_wp2
          go_roundw
          case rel => exact ⟨k + 1, by go_num, by go_num, by omega, by have := Hq.out; omega, by rw [He.out, hst.out]; omega, _, rfl⟩
          case measure => simp [intOf]; omega
        · have hst := Lib.hid (agrL_ne (t := t.data.toList) (r := R) (k := k) (by omega) (by omega) (by rw [ba_get t k c1, hRk2]; exact c3))
          have hd : ((s[q].toNat : Int) == (t[k].toNat : Int)) = false := by
            rw [beq_eq_false_iff_ne]; intro e; exact c3 (UInt8.toNat_inj.1 (Int.ofNat_inj.1 e)).symm
          clear htl hR0 hRq hRk hRk2 hRl2 c3
          go_wp2
          go_quiet (fail)
          go_wp2
          go_ret
          exact ⟨ret_int (by rw [Hag.out, He.out, hst.out]; simp), _, (World.drewN_drewN _ _ _).symm⟩
      · have hd2 : decide (s.size ≤ q) = true := by simp; omega
        have hst := Lib.hid (agrL_nil2 (t := t.data.toList.drop k) (r := R) (k := k) (by omega))
        have hd1 : (s.size : Int) ≤ q := by omega
        clear htl hR0 hRq hRk
        go_wp2
        go_quiet (fail)
        go_wp2
        go_ret
        exact ⟨ret_int (by rw [Hag.out, He.out, hst.out]; simp), _, (World.drewN_drewN _ _ _).symm⟩
    · have hst := Lib.hid (agrL_nil1 (t := t.data.toList) (r := R.drop k) (k := k) (by omega))
      have hd1 : (t.size : Int) ≤ k := by omega
      clear htl hR0 hRq hRk
      go_wp2
      go_ret
      exact ⟨ret_int (by rw [Hag.out, He.out, hst.out]; simp), _, rfl⟩
theorem agr_eq : ∀ t r : List UInt8, (agrL t r = t.length) ↔ t.isPrefixOf r = true
  | [], r => by simp [agrL]
  | a :: l, [] => by simp [agrL]
  | a :: l, b :: m => by
    by_cases h : a = b
    · subst h; simp only [agrL, if_pos, List.length_cons, List.isPrefixOf_cons_cons_self]; rw [← agr_eq l m]; omega
    · simp [agrL, h]
theorem agree_stands (s : ByteArray) (i : Nat) (t : ByteArray) : (((agree s i t : Nat) : Int) == (t.size : Int)) = stands s t i := by
  have h := agr_eq t.data.toList (s.data.toList.drop i)
  have hl : t.data.toList.length = t.size := by simp
  rw [hl] at h
  unfold stands agree
  rw [Bool.eq_iff_iff, ← h, beq_iff_eq]
  exact Int.ofNat_inj
set_option maxHeartbeats 1000000 in
theorem r1find_any (s : ByteArray) (p : Nat) (hp : p ≤ s.size) (hs : s.size ≤ 140737488355328) (t : ByteArray) (ht : t.size ≤ 140737488355328) (w : World) :
    Calls Try.prog 57 #[.string s, .int .i64 p, .string t] w fun e w' => e = .returned (.int .i64 (find s p t)) ∧ ∃ n, w.drewN n = w' := by
  have hspec := find_spec s t p hp
  generalize find s p t = r at hspec
  go_enter Try.func57, Try.ntmps57
  go_wp2
  rcases hspec with ⟨rfl, hno⟩ | ⟨k, rfl, hpk, hkt, hst, hno⟩
  · go_loopw [7] (fun x wr => ∃ i : Nat, x = .int .i64 i ∧ p ≤ i ∧ i ≤ s.size + 1 ∧ ∃ n, w.drewN n = wr) (fun x _ => s.size + 1 - (intOf x).toNat)
    case atStart => exact ⟨p, rfl, by omega, by omega, 0, rfl⟩
    case round =>
      obtain ⟨i, rfl, hi1, hi2, n, rfl⟩ := hrel
      by_cases hlt : i ≤ s.size
      · have hag := agree_stands s i t
        rw [hno i hi1 hlt] at hag
        have hlt' : (i : Int) ≤ s.size := by omega
        clear hno
        go_wp2_with (first | (go_at_call 55; (with_reducible refine (r1agree_any s i hlt hs t ht _).mono ?_); rintro e w5 ⟨rfl, n2, rfl⟩))
        go_roundw
        case rel => exact ⟨i + 1, by go_num, by omega, by omega, _, rfl⟩
        case measure => simp [intOf]; omega
      · have hlt' : (s.size : Int) < i := by omega
        clear hno
        go_wp2
        go_ret
        exact ⟨rfl, _, rfl⟩
  · go_loopw [7] (fun x wr => ∃ i : Nat, x = .int .i64 i ∧ p ≤ i ∧ i ≤ k ∧ ∃ n, w.drewN n = wr) (fun x _ => s.size + 1 - (intOf x).toNat)
    case atStart => exact ⟨p, rfl, by omega, by omega, 0, rfl⟩
    case round =>
      obtain ⟨i, rfl, hi1, hi2, n, rfl⟩ := hrel
      have hlt : i ≤ s.size := by omega
      have hag := agree_stands s i t
      have hlt' : (i : Int) ≤ s.size := by omega
      by_cases hik : i < k
      · rw [hno i hi1 hik] at hag
        clear hno
        go_wp2_with (first | (go_at_call 55; (with_reducible refine (r1agree_any s i hlt hs t ht _).mono ?_); rintro e w5 ⟨rfl, n2, rfl⟩))
        go_roundw
        case rel => exact ⟨i + 1, by go_num, by omega, by omega, _, rfl⟩
        case measure => simp [intOf]; omega
      · obtain rfl : i = k := by omega
        rw [hst] at hag
        clear hno
        go_wp2_with (first | (go_at_call 55; (with_reducible refine (r1agree_any s i hlt hs t ht _).mono ?_); rintro e w5 ⟨rfl, n2, rfl⟩))
        go_ret
        exact ⟨rfl, _, rfl⟩
end Go.Proofs.Ytedbbmopckbfbaa
