/- Contracts of coil.Size and coil.Print. No condition but those that each names. -/
import Derived.Test.YthdenjokedmcfaaCoilP
import Derived.Test.YthdenjokedmcfaaSl
namespace Go.Proofs.Ythdenjokedmcfaa
open Go.RowKit
set_option maxRecDepth 20000
theorem one_len' (e : Ev) (s : Nat) (d : Int) : (one e s d).length ≤ 51 := (one_len e s d).2
/-- What Size answers. -/
def szV (b e : Ev) : Nat := if (Stp b e).2.2 = true ∧ e.chk = 0 then (evBytes b e).length else 0
theorem cput_ev (b e : Ev) (hb : b.Wf) (he : e.Wf) (k : isK e.k = true) (q : (Stp b e).2.2 = true) (w : World) (bb : Nat) (R : Nat → Prop) (l : List UInt8) (h : IsWr w bb R l) (hlen : l.length + 60 ≤ 140737488355328) :
    Calls Try.prog 73 #[.pointer (some ⟨bb, 0, none⟩), e.val, .int .u64 (Stp b e).1, .int .i64 (Stp b e).2.1] w fun x w' => x = .returned (.tuple #[]) ∧ WrPost w bb R (l ++ evBytes b e) w' := by
  have := stp_yes q
  have h5 := he.ct
  exact cput_any h e k he _ (by unfold U64; omega) _ (by omega) (by omega) hlen
end Go.Proofs.Ythdenjokedmcfaa
