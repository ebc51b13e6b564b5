/- MagicNames' call. -/
import Derived.Test.YtpgipdajinkdgaaGreatMN2
import Derived.Test.YtpgipdajinkdgaaGreatFit
import Derived.Test.YtpgipdajinkdgaaGreatO3
namespace Go.Proofs.YtpgipdajinkdgaaGreatA
open Go Go.RowKit
set_option linter.all false
set_option linter.unusedSectionVars false
set_option linter.constructorNameAsVariable false
theorem magicNames_call (p : ByteArray) (d e : D2) (a : AtomT) (h1 : d.1.size ≤ reachBytes) (h2 : d.2.size ≤ reachBytes) (h3 : e.1.size ≤ reachBytes) (h4 : e.2.size ≤ reachBytes) : ∃ H, arun Tryz.prog cf 2000 3 [.sc (.string p), .agg [.sc (.string d.1), .sc (.string d.2)], .agg [.sc (.string e.1), .sc (.string e.2)], .agg a.c] [] = some (.sc (.bool true), H) :=
  names_call p d e a (by unfold reachBytes at h1 h3; omega) (by unfold reachBytes at h2 h4; omega) 1999 (by omega) awake17
end Go.Proofs.YtpgipdajinkdgaaGreatA
