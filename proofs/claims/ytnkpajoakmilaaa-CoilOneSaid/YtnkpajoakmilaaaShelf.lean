/- The library: this text needs none of its functions. -/
import Derived.Test.YtnkpajoakmilaaaProg
namespace Go.Proofs.Ytnkpajoakmilaaa
end Go.Proofs.Ytnkpajoakmilaaa
