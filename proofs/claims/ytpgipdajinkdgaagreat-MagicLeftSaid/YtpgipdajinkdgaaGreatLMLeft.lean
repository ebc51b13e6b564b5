/- Magic's laws: the word that the program's own first question answers. -/
import Derived.Test.YtpgipdajinkdgaaGreatM1
import Derived.Test.YtpgipdajinkdgaaGreatML2
import Derived.Test.YtpgipdajinkdgaaGreatOB
import Derived.Test.YtpgipdajinkdgaaGreatFit
namespace Go.Proofs.YtpgipdajinkdgaaGreatA
open Go Go.RowKit
set_option linter.all false
set_option linter.unusedSectionVars false
set_option linter.constructorNameAsVariable false
theorem awakeM : val Tryz.prog cf 1000000002000000 7 [] = some (.sc (.bool true)) := by kernel_rfl
end Go.Proofs.YtpgipdajinkdgaaGreatA

namespace Go.Proofs.YtpgipdajinkdgaaGreatA
open Go Go.RowKit
set_option linter.all false
set_option linter.unusedSectionVars false
set_option linter.constructorNameAsVariable false
theorem magicLeft_call (p : ProgT) (hS : ∀ n ∈ allN p, n.size ≤ bigB) (prune : Bool) : ∃ H, arun Tryz.prog cf 1000000002000001 4 [.agg p.c, .sc (.bool prune)] [] = some (.sc (.bool true), H) := magicLeft_law p prune hS 1000000002000000 (Nat.le_refl _) awakeM
end Go.Proofs.YtpgipdajinkdgaaGreatA
