/- AdornMore's call. -/
import Derived.Test.YtiphnjohbbpkpaaLMore2
import Derived.Test.YtiphnjohbbpkpaaAw16
import Derived.Test.YtiphnjohbbpkpaaFit
import Derived.Test.YtiphnjohbbpkpaaO2
namespace Go.Proofs.YtiphnjohbbpkpaaA
open Go Go.RowKit
set_option linter.all false
set_option linter.unusedSectionVars false
set_option linter.constructorNameAsVariable false
theorem more_call (a : AtomT) (bound more : List ByteArray) : ∃ H, arun Try.prog cf 2000 6 [.agg a.c, mkL 1 (bound.map sC), mkL 1 (more.map sC)] [] = some (.sc (.bool true), H) :=
  more_run a bound more 1999 (by omega) awake16
end Go.Proofs.YtiphnjohbbpkpaaA
