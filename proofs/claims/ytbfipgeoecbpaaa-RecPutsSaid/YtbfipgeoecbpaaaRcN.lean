/- rec.New, and the calls on a recorder that is none. No condition but those that each names. -/
import Derived.Test.YtbfipgeoecbpaaaRcM
namespace Go.Proofs.Ytbfipgeoecbpaaa
open Go.RowKit
set_option linter.unusedVariables false
set_option linter.unusedSimpArgs false
set_option maxRecDepth 20000
theorem rcnew_any {w : World} {tb rb cap : Nat} {pol : Int} {F : Nat → Prop} (hT : IsTab w tb) (hr : RingL w rb cap pol [] false 0 F) (ht : ¬ F tb) (hp : pol = 0 ∨ pol = 1) (room : Nat) (h1 : 20 ≤ room) (h2 : room ≤ 120) :
    Calls Try.prog 13 #[.pointer (some ⟨tb, 0, none⟩), .pointer (some ⟨rb, 0, none⟩), .int .i64 room] w fun x w' => x = .returned (.tuple #[.pointer (some ⟨w.heap.size, 0, none⟩), .int .i64 0]) ∧ RecP w' w.heap.size tb rb room cap pol rcd0 [] 0 (grow F w w') ∧ Below w.heap.size w w' := by
  have hB := (Below.refl w.heap.size w).alloc (Nat.le_refl _) (.cells (rcCells tb rb room (.slice none 0 0) 0 ⟨0, 0, 0, 0, 0, 0⟩ 0 false) 102)
  have hm := heap_alloc_new w (.cells (rcCells tb rb room (.slice none 0 0) 0 ⟨0, 0, 0, 0, 0, 0⟩ 0 false) 102)
  have hst : RecP (w.alloc (.cells (rcCells tb rb room (.slice none 0 0) 0 ⟨0, 0, 0, 0, 0, 0⟩ 0 false) 102)) w.heap.size tb rb room cap pol rcd0 [] 0 (grow F w (w.alloc (.cells (rcCells tb rb room (.slice none 0 0) 0 ⟨0, 0, 0, 0, 0, 0⟩ 0 false) 102))) := by
    obtain ⟨C, c1, _⟩ := id hT
    have htl := blk_lt c1
    refine ⟨⟨.slice none 0 0, F, { b := ⟨hm, World.ownsRow_nil _ _ _ _⟩, tab := hT.kept hB, ring := hr.below hB, xr := fun h => (by have := hr.foot _ h; omega), tr := ht, vr := fun g hg => (by cases hg), inv := rcd0_inv room, rm := ⟨h1, h2⟩, pl := hp, cnt := rfl }, ?_⟩, grow_lt hr.foot hB.size, ?_⟩
    · rintro k (rfl | hk | hk)
      · exact .inr ⟨Nat.le_refl _, by simp⟩
      · cases hk
      · exact .inl hk
    · rintro (hk | hk)
      · exact ht hk
      · omega
  unfold rcCells at hst hB
  have n1 : ¬ (room : Int) < 20 := by omega
  have n2 : ¬ (120 : Int) < room := by omega
  have HR := Lib.hid (And.intro hst hB)
  clear hst hB hm hr hT
  go_enter Try.func13, Try.ntmps13
  go_wp2_with fail
  go_ret2
  exact ⟨rfl, HR.out.1, HR.out.2⟩
theorem rcnew_bad (w : World) (tb rb : Nat) (room : Int) (h : room < 20 ∨ 120 < room) :
    Calls Try.prog 13 #[.pointer (some ⟨tb, 0, none⟩), .pointer (some ⟨rb, 0, none⟩), .int .i64 room] w fun x w' => x = .returned (.tuple #[.pointer none, .int .i64 1]) ∧ w = w' := by
  by_cases n1 : room < 20
  · go_enter Try.func13, Try.ntmps13
    go_wp2_with fail
    go_ret2
    exact ⟨rfl, rfl⟩
  · have n2 : (120 : Int) < room := by omega
    go_enter Try.func13, Try.ntmps13
    go_wp2_with fail
    go_ret2
    exact ⟨rfl, rfl⟩
theorem rcnew_nil1 (w : World) (v : Value) (room : Int) :
    Calls Try.prog 13 #[.pointer none, v, .int .i64 room] w fun x w' => x = .returned (.tuple #[.pointer none, .int .i64 16]) ∧ w = w' := by
  go_enter Try.func13, Try.ntmps13
  go_wp2_with fail
  go_ret2
  exact ⟨rfl, rfl⟩
theorem rcnew_nil2 (w : World) (tb : Nat) (room : Int) :
    Calls Try.prog 13 #[.pointer (some ⟨tb, 0, none⟩), .pointer none, .int .i64 room] w fun x w' => x = .returned (.tuple #[.pointer none, .int .i64 16]) ∧ w = w' := by
  go_enter Try.func13, Try.ntmps13
  go_wp2_with fail
  go_ret2
  exact ⟨rfl, rfl⟩
theorem nframes_any (w : World) : Calls Try.prog 19 #[.pointer none] w fun x w' => x = .returned (.int .i64 0) ∧ w = w' := by
  go_enter Try.func19, Try.ntmps19
  go_wp2_with fail
  go_ret
  exact ⟨rfl, rfl⟩
theorem nopen_any (w : World) : Calls Try.prog 20 #[.pointer none] w fun x w' => x = .returned (.int .i64 0) ∧ w = w' := by
  go_enter Try.func20, Try.ntmps20
  go_wp2_with fail
  go_ret
  exact ⟨rfl, rfl⟩
theorem nflush_any (w : World) : Calls Try.prog 15 #[.pointer none] w fun x w' => x = .returned (.tuple #[]) ∧ w = w' := by
  go_enter Try.func15, Try.ntmps15
  go_wp2_with fail
  refine bodyPost_ret (v := .tuple #[]) (by simp [results, Try.results15, go_sem]) rfl ?_
  exact ⟨rfl, rfl⟩
theorem nput_any (w : World) (e : Ev) : Calls Try.prog 17 #[.pointer none, e.val] w fun x w' => x = .returned (.int .i64 16) ∧ Below w.heap.size w w' := by
  have hB := (Below.refl w.heap.size w).alloc (Nat.le_refl _) (.cells e.cells.toArray 25)
  unfold Ev.val
  go_enter Try.func17, Try.ntmps17
  go_wp2_with fail
  go_ret
  exact ⟨rfl, hB⟩
end Go.Proofs.Ytbfipgeoecbpaaa
