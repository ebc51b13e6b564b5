/- What a program that does nothing answers wrongly, this one answers right. -/
import Derived.Test.YtpgipdajinkdgaaGreatA
namespace Go.Proofs.YtpgipdajinkdgaaGreatA
open Go Go.RowKit
set_option linter.all false
set_option linter.unusedSectionVars false
set_option linter.constructorNameAsVariable false
theorem awake17 : val Tryz.prog cf 1999 7 [] = some (.sc (.bool true)) := by kernel_rfl
end Go.Proofs.YtpgipdajinkdgaaGreatA
