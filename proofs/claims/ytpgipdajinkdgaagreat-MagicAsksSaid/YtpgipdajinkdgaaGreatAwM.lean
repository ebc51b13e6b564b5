/- A part of the proof of MagicAsks: functions of the program, run by the evaluator. -/

/- Magic's laws: the word that the program's own first question answers. -/
import Derived.Test.YtpgipdajinkdgaaGreatM1
namespace Go.Proofs.YtpgipdajinkdgaaGreatA
open Go Go.RowKit
set_option linter.all false
set_option linter.unusedSectionVars false
set_option linter.constructorNameAsVariable false
theorem awakeM : val Tryz.prog cf 1000000002000000 7 [] = some (.sc (.bool true)) := by kernel_rfl
end Go.Proofs.YtpgipdajinkdgaaGreatA
