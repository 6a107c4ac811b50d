/- Contracts of hunt.New, Feed, Close, Next, Skipped, Lost. No condition but those that each names. -/
import Derived.Test.YtbfipgeoecbpaaaHuH
namespace Go.Proofs.Ytbfipgeoecbpaaa
open Go.RowKit
set_option linter.unusedVariables false
set_option linter.unusedSimpArgs false
set_option maxRecDepth 20000
theorem HuPost.from {w w1 : World} {b tb : Nat} {Y : ByteArray} {cl : Bool} {R : HS} {x : Ending} {w' : World} (h : HuPost w1 b tb Y cl R x w') (o : Only (fun k => k = b) w w1) : HuPost w b tb Y cl R x w' := by
  obtain ⟨ao, cap, its, h1, h2, h3, h4, h5⟩ := h
  exact ⟨ao, cap, its, h1, h2, h3.mono o.size, h4, o.trans h5 fun _ _ x => x⟩
theorem hnew_any (w : World) (tb : Nat) : Calls Try.prog 32 #[.pointer (some ⟨tb, 0, none⟩)] w fun x w' => x = .returned (.tuple #[.pointer (some ⟨w.heap.size, 0, none⟩), .int .i64 0]) ∧ IsHu w' w.heap.size tb ⟨#[]⟩ 0 0 0 false ∧ Below w.heap.size w w' := by
  have h0 := heap_alloc_new w (.cells #[.pointer (some ⟨tb, 0, none⟩), .string ⟨#[]⟩, .int .u64 0, .int .u64 0, .int .u64 0, .bool false] 119)
  have hB := (Below.refl w.heap.size w).alloc (Nat.le_refl _) (.cells #[.pointer (some ⟨tb, 0, none⟩), .string ⟨#[]⟩, .int .u64 0, .int .u64 0, .int .u64 0, .bool false] 119)
  go_enter Try.func32, Try.ntmps32
  go_wp2_with fail
  go_ret2
  exact ⟨rfl, h0, hB⟩
theorem hnew_nil (w : World) : Calls Try.prog 32 #[.pointer none] w fun x w' => x = .returned (.tuple #[.pointer none, .int .i64 16]) ∧ w = w' := by
  go_enter Try.func32, Try.ntmps32
  go_wp2_with fail
  go_ret2
  exact ⟨rfl, rfl⟩
set_option maxHeartbeats 1000000 in
theorem feed_any (w : World) (b tb : Nat) (Y s : ByteArray) (nx sk lo : Nat) (hH : IsHu w b tb Y nx sk lo false) (hT : IsTab w tb) (hne : tb ≠ b) (hs : Y.size + s.size ≤ 1000000000) (hsk : sk ≤ 1000000000000000) (hnx : nx ≤ 4294967296) (hlo : lo ≤ nx) :
    Calls Try.prog 33 #[.pointer (some ⟨b, 0, none⟩), .string s] w (HuPost w b tb (Y ++ s) false (hfin (Y ++ s) false ⟨[], 0, nx, sk, lo⟩)) := by
  have h1 := hH.set1 (Y ++ s)
  have o1 := (Only.refl (fun k => k = b) w).setCell ⟨b, 1, none⟩ (.string (Y ++ s)) fun _ => rfl
  have hr := hhunt_any _ b tb (Y ++ s) nx sk lo false h1 (hT.only o1 hne) hne (by rw [ByteArray.size_append]; omega) hsk hnx hlo
  obtain ⟨y0, y1, y2, y3, y4, y5⟩ := hH.cells
  have z1 := hH.frozen 1
  have HR := Lib.hid (And.intro hr o1)
  have hsz : (Y.size : Int) + s.size ≤ 1000000000 := by omega
  clear hr o1 h1 hH hT hs
  go_enter Try.func33, Try.ntmps33
  go_wp2_with fail
  refine HR.out.1.mono ?_
  intro x w2 hx
  have hx2 := hx.from HR.out.2
  obtain ⟨ao, cap, its, rfl, h2⟩ := hx2
  clear hx
  go_wp2_with fail
  go_ret
  exact ⟨ao, cap, its, rfl, h2⟩
theorem feed_closed (w : World) (b tb : Nat) (Y : ByteArray) (s : Value) (nx sk lo : Nat) (hH : IsHu w b tb Y nx sk lo true) : Calls Try.prog 33 #[.pointer (some ⟨b, 0, none⟩), s] w fun x w' => x = .returned (.slice none 0 0) ∧ w = w' := by
  obtain ⟨y0, y1, y2, y3, y4, y5⟩ := hH.cells
  go_enter Try.func33, Try.ntmps33
  go_wp2_with fail
  go_ret
  exact ⟨rfl, rfl⟩
theorem feed_nil (w : World) (s : Value) : Calls Try.prog 33 #[.pointer none, s] w fun x w' => x = .returned (.slice none 0 0) ∧ w = w' := by
  go_enter Try.func33, Try.ntmps33
  go_wp2_with fail
  go_ret
  exact ⟨rfl, rfl⟩
set_option maxHeartbeats 1000000 in
theorem hclose_any (w : World) (b tb : Nat) (Y : ByteArray) (nx sk lo : Nat) (hH : IsHu w b tb Y nx sk lo false) (hT : IsTab w tb) (hne : tb ≠ b) (hs : Y.size ≤ 1000000000) (hsk : sk ≤ 1000000000000000) (hnx : nx ≤ 4294967296) (hlo : lo ≤ nx) :
    Calls Try.prog 34 #[.pointer (some ⟨b, 0, none⟩)] w (HuPost w b tb Y true (hfin Y true ⟨[], 0, nx, sk, lo⟩)) := by
  have h1 := hH.set5 true
  have o1 := (Only.refl (fun k => k = b) w).setCell ⟨b, 5, none⟩ (.bool true) fun _ => rfl
  have hr := hhunt_any _ b tb Y nx sk lo true h1 (hT.only o1 hne) hne hs hsk hnx hlo
  obtain ⟨y0, y1, y2, y3, y4, y5⟩ := hH.cells
  have z5 := hH.frozen 5
  have HR := Lib.hid (And.intro hr o1)
  clear hr o1 h1 hH hT hs
  go_enter Try.func34, Try.ntmps34
  go_wp2_with fail
  refine HR.out.1.mono ?_
  intro x w2 hx
  have hx2 := hx.from HR.out.2
  obtain ⟨ao, cap, its, rfl, h2⟩ := hx2
  clear hx
  go_wp2_with fail
  go_ret
  exact ⟨ao, cap, its, rfl, h2⟩
theorem hclose_closed (w : World) (b tb : Nat) (Y : ByteArray) (nx sk lo : Nat) (hH : IsHu w b tb Y nx sk lo true) : Calls Try.prog 34 #[.pointer (some ⟨b, 0, none⟩)] w fun x w' => x = .returned (.slice none 0 0) ∧ w = w' := by
  obtain ⟨y0, y1, y2, y3, y4, y5⟩ := hH.cells
  go_enter Try.func34, Try.ntmps34
  go_wp2_with fail
  go_ret
  exact ⟨rfl, rfl⟩
theorem hclose_nil (w : World) : Calls Try.prog 34 #[.pointer none] w fun x w' => x = .returned (.slice none 0 0) ∧ w = w' := by
  go_enter Try.func34, Try.ntmps34
  go_wp2_with fail
  go_ret
  exact ⟨rfl, rfl⟩
theorem hskipped_any (w : World) (b tb : Nat) (Y : ByteArray) (nx sk lo : Nat) (cl : Bool) (hH : IsHu w b tb Y nx sk lo cl) : Calls Try.prog 36 #[.pointer (some ⟨b, 0, none⟩)] w fun x w' => x = .returned (.int .u64 sk) ∧ w = w' := by
  obtain ⟨y0, y1, y2, y3, y4, y5⟩ := hH.cells
  go_enter Try.func36, Try.ntmps36
  go_wp2_with fail
  go_ret
  exact ⟨rfl, rfl⟩
theorem hlost_any (w : World) (b tb : Nat) (Y : ByteArray) (nx sk lo : Nat) (cl : Bool) (hH : IsHu w b tb Y nx sk lo cl) : Calls Try.prog 37 #[.pointer (some ⟨b, 0, none⟩)] w fun x w' => x = .returned (.int .u64 lo) ∧ w = w' := by
  obtain ⟨y0, y1, y2, y3, y4, y5⟩ := hH.cells
  go_enter Try.func37, Try.ntmps37
  go_wp2_with fail
  go_ret
  exact ⟨rfl, rfl⟩
theorem hskipped_nil (w : World) : Calls Try.prog 36 #[.pointer none] w fun x w' => x = .returned (.int .u64 0) ∧ w = w' := by
  go_enter Try.func36, Try.ntmps36
  go_wp2_with fail
  go_ret
  exact ⟨rfl, rfl⟩
theorem hlost_nil (w : World) : Calls Try.prog 37 #[.pointer none] w fun x w' => x = .returned (.int .u64 0) ∧ w = w' := by
  go_enter Try.func37, Try.ntmps37
  go_wp2_with fail
  go_ret
  exact ⟨rfl, rfl⟩
end Go.Proofs.Ytbfipgeoecbpaaa
