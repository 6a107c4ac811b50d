/- Contracts of package ring: lay, peek. No condition but those that each names. -/
import Derived.Test.YtbfipgeoecbpaaaRg
import Derived.Test.YtbfipgeoecbpaaaStr
import Derived.Test.YtbfipgeoecbpaaaBK
import Derived.IntWalk
import Derived.StillTailTactics
import Derived.Deep.DeepCutAuto
import Derived.Deep.LoopGhost
import Derived.Deep.QuietTactic
import Derived.RegionTactic
import Derived.BigRegion
import Derived.BigQuiet
namespace Go.Proofs.Ytbfipgeoecbpaaa
open Go.RowKit
set_option linter.unusedVariables false
set_option linter.unusedSimpArgs false
set_option maxRecDepth 20000
theorem RgSt.setRoom {w : World} {b : Nat} {X : Rg} {R : Nat → UInt8} {l : List Nat} (h : RgSt w b X R l) {i : Nat} (hi : i < X.cap) (x : UInt8) : RgSt (w.setCell ⟨X.rb, i, none⟩ (.int .u8 x.toNat)) b X (fun k => if k = i then x else R k) l :=
  { h with
    me := blk_setCell_other (p := ⟨X.rb, i, none⟩) h.me h.b_rb _
    room := h.room.set hi x
    sz := h.sz.keep fun g hg => Below.heap_setCell _ _ _ _ (fun e => h.sv_rb (by rw [hg, show g = X.rb from e])) }
def LayL (w : World) (b : Nat) (X : Rg) (R : Nat → UInt8) (l : List Nat) (at_ : Nat) (s : ByteArray) (g : Nat) (i : Value) (wr : World) : Prop :=
  ∃ k : Nat, i = .int .i64 k ∧ k ≤ s.size ∧ RgSt wr b X (layR R X.cap (X.hd + at_) s.data.toList k) l ∧ Only (fun k => k = X.rb) w wr ∧ s.size - k ≤ g
theorem bget {s : ByteArray} {k : Nat} (h : k < s.size) : s.data.toList.getD k 0 = s[k] := by
  rw [List.getD_eq_getElem?_getD, List.getElem?_eq_getElem (by simpa using h)]
  rfl
set_option maxHeartbeats 1000000 in
theorem lay_any {w : World} {b : Nat} {X : Rg} {R : Nat → UInt8} {l : List Nat} (h : RgSt w b X R l) (at_ : Nat) (s : ByteArray) (hat : at_ ≤ 2000000) (hs : s.size ≤ X.cap) :
    Calls Try.prog 67 #[.pointer (some ⟨b, 0, none⟩), .int .i64 at_, .string s] w fun x w' => x = .returned (.tuple #[]) ∧ RgSt w' b X (layR R X.cap (X.hd + at_) s.data.toList s.size) l ∧ Only (fun k => k = X.rb) w w' := by
  have hcap := h.cap
  have hhd := h.hd
  have st0 := h
  clear h
  go_enter Try.func67, Try.ntmps67
  go_wp2_with fail
  go_loopg [6] (s.size) (fun g i wr => LayL w b X R l at_ s g i wr)
  case atStart => exact ⟨0, rfl, Nat.zero_le _, st0, Only.refl _ _, by omega⟩
  case round =>
    obtain ⟨k, rfl, hk, st, on, hg⟩ := hrel
    clear st0
    obtain ⟨y0, y1, y2, y3, y4, y5, y6⟩ := st.cells
    by_cases hlt : k < s.size
    · have hlt' : (k : Int) < s.size := by omega
      obtain ⟨m, hm⟩ : ∃ m, m = (X.hd + at_ + k) % X.cap := ⟨_, rfl⟩
      have hml : m < X.cap := by rw [hm]; exact Nat.mod_lt _ (by omega)
      have hmi : ((X.hd : Int) + at_ + k) % (X.cap : Int) = (m : Int) := by
        have e : ((X.hd + at_ + k : Nat) : Int) = (X.hd : Int) + at_ + k := by omega
        rw [hm, Int.natCast_emod, e]
      have hc := st.room.cell hml
      have hz := st.room.frozen m
      have HM := Lib.hid hm
      clear hm
      go_upto_region 3 with fail
      go_region
      have st2 := (st.below ((Below.refl wr.heap.size wr).drew)).setRoom hml s[k]
      have on2 := (on.drewN 1).setCell ⟨X.rb, m, none⟩ (.int .u8 s[k].toNat) fun _ => rfl
      go_wp2_with fail
      obtain ⟨g, rfl⟩ : ∃ g, gk = g + 1 := ⟨gk - 1, by omega⟩
      go_roundg g
      case measure => omega
      case rel =>
        refine ⟨k + 1, by go_num, by omega, ?_, on2, by omega⟩
        have e : (fun i => if i = m then s[k] else layR R X.cap (X.hd + at_) s.data.toList k i) = layR R X.cap (X.hd + at_) s.data.toList (k + 1) := by
          funext i
          rw [layR_succ, bget hlt, HM.out]
        rw [← e]
        exact st2
    · have hlt' : ¬ (k : Int) < s.size := by omega
      go_wp2_with fail
      go_end0
      obtain rfl : k = s.size := by omega
      exact ⟨rfl, st, on⟩
theorem IsRoom.str {P : Program} {w : World} {o n cap e src dst : Nat} {O : Nat → UInt8} (h : IsRoom w o n O) (hs : P.underlying src = some (.slice e)) (he : P.underlying e = some (.int .u8)) (hd : P.underlying dst = some .string) :
    (convert src dst (.slice (some ⟨o, 0, none⟩) n cap)).run P w = .ok (.string ⟨((List.range n).map O).toArray⟩) w := by
  refine run_str_cells (fun j hj => ?_) (by simp) hs he hd
  have hj' : j < n := by simpa using hj
  rw [h.cell hj']
  simp
/-! ### peek -/
def PkL (w : World) (R : Nat → UInt8) (cap h : Nat) (n o : Nat) (g : Nat) (i u8 : Value) (wr : World) : Prop :=
  ∃ (k : Nat) (O : Nat → UInt8), i = .int .i64 k ∧ k ≤ n ∧ IsRoom wr o n O ∧ (∀ j, j < k → O j = R ((h + j) % cap)) ∧ Below w.heap.size w wr ∧ n - k ≤ g ∧ w.heap.size ≤ o
set_option maxHeartbeats 1000000 in
theorem peek_any {w : World} {b : Nat} {X : Rg} {R : Nat → UInt8} {l : List Nat} (h : RgSt w b X R l) (at_ n : Nat) (hat : at_ ≤ 2000000) (hn : n ≤ X.cap) :
    Calls Try.prog 58 #[.pointer (some ⟨b, 0, none⟩), .int .i64 at_, .int .i64 n] w fun x w' => x = .returned (.string ⟨(cont R X.cap (X.hd + at_) n).toArray⟩) ∧ Below w.heap.size w w' := by
  have hcap := h.cap
  have hhd := h.hd
  have st0 := h
  clear h
  have hmk := run_make_row' (P := Try.prog) 97 5 (.int .u8 0) 1 (by kernel_rfl) (by kernel_rfl) rfl .i64 .i64 n (by omega) (by omega) w
  have hroom := IsRoom.made w n
  have hal := (Below.refl w.heap.size w).alloc (Nat.le_refl _) (.cells (madeCells #[.int .u8 0] n) 5)
  generalize (w.alloc (.cells (madeCells #[.int .u8 0] n) 5)) = w1 at *
  obtain ⟨o, ho⟩ : ∃ o, o = w.heap.size := ⟨_, rfl⟩
  rw [← ho] at hroom hmk
  have HO := Lib.hid ho
  clear ho
  go_enter Try.func58, Try.ntmps58
  go_upto_region 3 with fail
  clear hmk
  go_loopg [8, 13] (n) (fun g u8 i wr => PkL w R X.cap (X.hd + at_) n o g i u8 wr)
  case atStart => exact ⟨0, _, rfl, Nat.zero_le _, hroom, fun j hj => absurd hj (Nat.not_lt_zero _), hal, by omega, by have := HO.out; omega⟩
  case round =>
    obtain ⟨k, O, rfl, hk, hO, hOk, hB, hg, hol⟩ := hrel
    clear hroom hal
    have st := st0.below hB
    by_cases hlt : k < n
    · have hlt' : (k : Int) < n := by omega
      obtain ⟨y0, y1, y2, y3, y4, y5, y6⟩ := st.cells
      obtain ⟨m, hm⟩ : ∃ m, m = (X.hd + at_ + k) % X.cap := ⟨_, rfl⟩
      have hml : m < X.cap := by rw [hm]; exact Nat.mod_lt _ (by omega)
      have hmi : ((X.hd : Int) + at_ + k) % (X.cap : Int) = (m : Int) := by
        have e : ((X.hd + at_ + k : Nat) : Int) = (X.hd : Int) + at_ + k := by omega
        rw [hm, Int.natCast_emod, e]
      have hc := st.room.cell hml
      have hc2 := hO.cell hlt
      have hz2 := hO.frozen k
      have HM := Lib.hid hm
      have HOK := Lib.hid hOk
      clear hm hOk
      go_upto_region 5 with fail
      go_region
      have hO2 := (hO.keep (w' := wr.drew) rfl).set hlt (R m)
      have hB2 := bel_set2 hB.drew ⟨o, k, none⟩ (.int .u8 (R m).toNat) hol
      go_wp2_with fail
      obtain ⟨g, rfl⟩ : ∃ g, gk = g + 1 := ⟨gk - 1, by omega⟩
      go_roundg g
      case measure => omega
      case rel =>
        refine ⟨k + 1, _, by go_num, by omega, hO2, ?_, hB2, by omega, hol⟩
        intro j hj
        show (if j = k then R m else O j) = _
        split
        · rename_i e
          rw [e, HM.out]
        · exact HOK.out j (by omega)
    · have hlt' : ¬ (k : Int) < n := by omega
      obtain rfl : k = n := by omega
      have hfin : (List.range k).map (fun j => O j) = cont R X.cap (X.hd + at_) k := List.map_congr_left fun j hj => hOk j (by simpa using hj)
      have hcv := hO.str (P := Try.prog) (cap := k) (src := 97) (dst := 9) (e := 5) (by kernel_rfl) (by kernel_rfl) (by kernel_rfl)
      rw [show (List.range k).map O = cont R X.cap (X.hd + at_) k from hfin] at hcv
      go_wp2_with fail
      go_ret
      exact ⟨rfl, hB⟩
end Go.Proofs.Ytbfipgeoecbpaaa
