/- A part of the proof of StrataFewer: functions of the program, run by the evaluator. -/

/- Rows of demands: in, Same, Index, IndexFunc, Contains, ContainsFunc, Use. -/
import Derived.Test.YtigfnhbbfbnicaaA
namespace Go.Proofs.YtigfnhbbfbnicaaA
open Go Go.RowKit
set_option linter.all false
set_option linter.unusedSectionVars false
set_option linter.constructorNameAsVariable false
set_option linter.unusedVariables false
set_option linter.unusedSimpArgs false
def idxOf {α : Type} (l : List α) (q : α → Bool) : Int := match l.findIdx? q with
  | some i => i
  | none => -1
theorem idxOf_none {α : Type} {l : List α} {q : α → Bool} (h : l.findIdx? q = none) : idxOf l q = -1 := by unfold idxOf; rw [h]
theorem idxOf_some {α : Type} {l : List α} {q : α → Bool} {j : Nat} (h : l.findIdx? q = some j) : idxOf l q = j := by unfold idxOf; rw [h]
theorem idx_any {α : Type} {l : List α} {q : α → Bool} : decide (0 ≤ idxOf l q) = l.any q := by
  rw [any_find]
  unfold idxOf
  cases h : l.findIdx? q <;> simp
end Go.Proofs.YtigfnhbbfbnicaaA
