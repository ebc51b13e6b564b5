/- A part of the proof of MagicAsks: functions of the program, run by the evaluator. -/

/- MagicAsks' call. -/
import Derived.Test.YtpgipdajinkdgaaGreatMH
import Derived.Test.YtpgipdajinkdgaaGreatAwM
import Derived.Test.YtpgipdajinkdgaaGreatOB
import Derived.Test.YtpgipdajinkdgaaGreatFit
namespace Go.Proofs.YtpgipdajinkdgaaGreatA
open Go Go.RowKit
set_option linter.all false
set_option linter.unusedSectionVars false
set_option linter.constructorNameAsVariable false
theorem magicAsks_call (p : ProgT) (hS : ∀ n ∈ allN p, n.size ≤ bigB) (prune : Bool) : ∃ H, arun Tryz.prog cf 1000000002000001 5 [.agg p.c, .sc (.bool prune)] [] = some (.sc (.bool true), H) := magicAsks_law p prune hS 1000000002000000 (Nat.le_refl _) awakeM
end Go.Proofs.YtpgipdajinkdgaaGreatA
