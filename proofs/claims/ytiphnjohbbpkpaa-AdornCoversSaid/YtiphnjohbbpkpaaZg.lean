/- A part of the proof of AdornCovers: functions of the program, run by the evaluator. -/
import Derived.Test.YtiphnjohbbpkpaaZ
namespace Go.Proofs.YtiphnjohbbpkpaaA
open Go Go.RowKit
set_option linter.all false
set_option linter.unusedSectionVars false
set_option linter.constructorNameAsVariable false
theorem awake_kernel : (arun Try.prog cf 1999 7 [] []).map (·.1) = some (.sc (.bool true)) := by kernel_rfl
end Go.Proofs.YtiphnjohbbpkpaaA
