/- The walk of the statement of layer 24: PipeNil. -/
import Derived.Test.YtbfipgeoecbpaaaRgB
import Derived.Test.YtbfipgeoecbpaaaW24
namespace Go.Proofs.Ytbfipgeoecbpaaa
open Go.Conc Go.RowKit
set_option linter.unusedVariables false
set_option linter.unusedSimpArgs false
set_option maxRecDepth 20000
theorem ntake_any (w : World) : Calls Try.prog 52 #[.pointer none] w fun x w' => x = .returned (.tuple #[.string ⟨#[]⟩, .bool false]) ∧ w = w' := by
  go_enter Try.func52, Try.ntmps52
  go_wp2_with fail
  go_ret2
  exact ⟨rfl, rfl⟩
theorem nclose_any (w : World) : Calls Try.prog 43 #[.pointer none] w fun x w' => x = .returned (.tuple #[]) ∧ w = w' := by
  go_enter Try.func43, Try.ntmps43
  go_wp2_with fail
  go_end0
  exact ⟨rfl, rfl⟩
theorem noffer_any (w : World) (s : ByteArray) : Calls Try.prog 53 #[.pointer none, .string s] w fun x w' => x = .returned (.bool false) ∧ w = w' := by
  go_enter Try.func53, Try.ntmps53
  go_wp2_with fail
  go_ret
  exact ⟨rfl, rfl⟩
theorem nover_any (w : World) : Calls Try.prog 54 #[.pointer none] w fun x w' => x = .returned (.bool false) ∧ w = w' := by
  go_enter Try.func54, Try.ntmps54
  go_wp2_with fail
  go_ret
  exact ⟨rfl, rfl⟩
theorem nlen_any (w : World) : Calls Try.prog 42 #[.pointer none] w fun x w' => x = .returned (.int .i64 0) ∧ w = w' := by
  go_enter Try.func42, Try.ntmps42
  go_wp2_with fail
  go_ret
  exact ⟨rfl, rfl⟩
theorem nfeed_any (w : World) (v : Value) : Calls Try.prog 48 #[.pointer none, v] w fun x w' => x = .returned (.tuple #[.slice none 0 0, .bool false]) ∧ w = w' := by
  go_enter Try.func48, Try.ntmps48
  go_wp2_with (go_at_call 52; (refine (ntake_any w).mono ?_); rintro x w2 ⟨rfl, rfl⟩)
  go_ret2
  exact ⟨rfl, rfl⟩
theorem npump_any (w : World) (v : Value) (n : Int) : Calls Try.prog 41 #[v, .pointer none, .int .i64 n] w fun x w' => x = .returned (.int .i64 0) ∧ ∃ m, w' = w.drewN m := by
  go_enter Try.func41, Try.ntmps41
  go_upto_region 1 with fail
  go_quiet (fail)
  go_wp2_with fail
  go_ret
  exact ⟨rfl, _, rfl⟩
/-- A pump of no ring. -/
theorem npump2_any {w : World} {b c : Nat} (h : IsPipe w b c 1 [] false) (n : Int) : Calls Try.prog 41 #[.pointer none, .pointer (some ⟨b, 0, none⟩), .int .i64 n] w fun x w' => x = .returned (.int .i64 0) ∧ ∃ m, w' = w.drewN m := by
  have h0 : w.cell? ⟨b, 0, none⟩ = some (.chan (some c)) := by rw [cell_blk h.blk]; rfl
  have h1 : w.cell? ⟨b, 1, none⟩ = some (.bool false) := by rw [cell_blk h.blk]; rfl
  obtain ⟨s, r, h2⟩ := h.ch
  have hlen := fun (a : Nat) ty => run_len_chan (P := Try.prog) (w := w.drewN a) 120 ty Try.underlying120 h2
  rw [chs_size] at hlen
  have hcap := fun (a : Nat) ty => run_cap_chan (P := Try.prog) (w := w.drewN a) 120 ty Try.underlying120 h2
  simp only [goInt, List.length_nil] at hlen hcap
  have e01 : (((0 : Nat) : Int) == ((1 : Nat) : Int)) = false := by decide
  have e02 : ((0 : Int) == 1) = false := by decide
  have hs : ∀ a, Calls Try.prog 26 #[.pointer none] (w.drewN a) (fun e w'' => e = .returned (.int .i64 0) ∧ ∃ m, w'' = w.drewN m) := fun a => (rused_nil _).mono fun e w' h => ⟨h.1, a, h.2.symm⟩
  by_cases n0 : n < 1
  · have d0 : decide (n < 1) = true := by simp; omega
    go_enter Try.func41, Try.ntmps41
    go_upto_region 1 with fail
    go_quiet (fail)
    go_wp2_with fail
    go_ret
    exact ⟨rfl, _, rfl⟩
  · have d0 : decide (n < 1) = false := by simp; omega
    go_enter Try.func41, Try.ntmps41
    go_upto_region 1 with fail
    go_quiet (exact hs _)
    go_wp2_with fail
    go_ret
    exact ⟨rfl, _, rfl⟩
end Go.Proofs.Ytbfipgeoecbpaaa
