/- StrataNames' call. -/
import Derived.Test.YtigfnhbbfbnicaaSN2
import Derived.Test.YtigfnhbbfbnicaaFit
import Derived.Test.YtigfnhbbfbnicaaO2
namespace Go.Proofs.YtigfnhbbfbnicaaA
open Go Go.RowKit
set_option linter.all false
set_option linter.unusedSectionVars false
set_option linter.constructorNameAsVariable false
theorem awake13b : val Try.prog cf 1999999 6 [] = some (.sc (.bool true)) := by kernel_rfl
theorem strataNames_call (p : ProgT) : ∃ H, arun Try.prog cf 2000000 4 [.agg p.c] [] = some (.sc (.bool true), H) := strataNames_law p 1999999 (Nat.le_refl _) awake13b
end Go.Proofs.YtigfnhbbfbnicaaA
