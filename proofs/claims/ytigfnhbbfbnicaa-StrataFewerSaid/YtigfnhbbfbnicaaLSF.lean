/- A part of the proof of StrataFewer: functions of the program, run by the evaluator. -/

/- StrataFewer's call. -/
import Derived.Test.YtigfnhbbfbnicaaSF
import Derived.Test.YtigfnhbbfbnicaaFit
import Derived.Test.YtigfnhbbfbnicaaO2
namespace Go.Proofs.YtigfnhbbfbnicaaA
open Go Go.RowKit
set_option linter.all false
set_option linter.unusedSectionVars false
set_option linter.constructorNameAsVariable false
theorem ok_u8 {P : Program} {W : World} {r : Reach} {base : Nat} {t : TypeId} {n : Int} (ht : P.underlying t = some (.int .u8)) (h : Value.okWide P W r base t (.int .u8 n)) : 0 ≤ n ∧ n ≤ 255 := by
  simp [Value.okWide, ht, Cell.okWide, Cell.ok, IntKind.has, show IntKind.u8.min = 0 from rfl, show IntKind.u8.max = 255 from rfl] at h
  omega
theorem awake13c : val Try.prog cf 1999999 6 [] = some (.sc (.bool true)) := by kernel_rfl
theorem strataFewer_call (p : ProgT) (n : Int) (hn : 0 ≤ n ∧ n ≤ 255) : ∃ H, arun Try.prog cf 2000000 3 [.agg p.c, .sc (.int .u8 n)] [] = some (.sc (.bool true), H) := strataFewer_law p n hn 1999999 (Nat.le_refl _) awake13c
end Go.Proofs.YtigfnhbbfbnicaaA
