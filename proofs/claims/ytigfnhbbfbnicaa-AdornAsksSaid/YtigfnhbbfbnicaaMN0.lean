/- A part of the proof of AdornAsks: functions of the program, run by the evaluator. -/

/- Rows of terms. -/
import Derived.Test.YtigfnhbbfbnicaaN7
namespace Go.Proofs.YtigfnhbbfbnicaaA
open Go Go.RowKit
set_option linter.all false
set_option linter.unusedSectionVars false
set_option linter.constructorNameAsVariable false
set_option linter.unusedVariables false
abbrev tRows (l : List TermT) : List (List AV) := l.map TermT.c
theorem tRows_row {l : List TermT} : ∀ r ∈ tRows l, r.length = 4 := fun r hr => by
  obtain ⟨s, _, rfl⟩ := List.mem_map.1 hr
  rfl
theorem tRows_stay {l : List TermT} : ∀ r ∈ tRows l, ∀ x ∈ r, Stays x ∧ ∃ u, x = .sc u := fun r hr x hx => by
  obtain ⟨s, _, rfl⟩ := List.mem_map.1 hr
  simp only [TermT.c, List.mem_cons, List.not_mem_nil, or_false] at hx
  rcases hx with rfl | rfl | rfl | rfl
  · exact ⟨stays_str, _, rfl⟩
  · exact ⟨stays_int, _, rfl⟩
  · exact ⟨stays_int, _, rfl⟩
  · exact ⟨stays_str, _, rfl⟩
end Go.Proofs.YtigfnhbbfbnicaaA
