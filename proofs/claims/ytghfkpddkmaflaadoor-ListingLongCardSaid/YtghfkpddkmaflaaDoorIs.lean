/- Contract of the reference's Form (layer 10), in parts. No condition but those that each names. -/
import Derived.Test.YtghfkpddkmaflaaDoorIsa
import Derived.Test.YtghfkpddkmaflaaDoorIsb
import Derived.Test.YtghfkpddkmaflaaDoorIsc
import Derived.Test.YtghfkpddkmaflaaDoorIsd
namespace Go.Proofs.YtghfkpddkmaflaaDoor
open Go Go.RowKit
set_option linter.unusedVariables false
set_option linter.unusedSimpArgs false
set_option maxRecDepth 20000
theorem rform_any (i : Ins) (hi : i.Wf) (w : World) : Calls Tryd.prog 11 #[i.val] w fun x w' => x = .returned (.int .i64 i.chk) ∧ Below w.heap.size w w' := by
  rcases bTf (uA i.o) with h1 | h1 <;> rcases bTf (uB i.o) with h2 | h2 <;> rcases bTf (uC i.o) with h3 | h3
  · exact rform_ttt i hi h1 h2 h3 w
  · exact rform_ttf i hi h1 h2 h3 w
  · exact rform_tft i hi h1 h2 h3 w
  · exact rform_tff i hi h1 h2 h3 w
  · exact rform_ftt i hi h1 h2 h3 w
  · exact rform_ftf i hi h1 h2 h3 w
  · exact rform_fft i hi h1 h2 h3 w
  · exact rform_fff i hi h1 h2 h3 w
end Go.Proofs.YtghfkpddkmaflaaDoor
