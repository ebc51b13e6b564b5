/- A part of the proof of StrataFewer: functions of the program, run by the evaluator. -/

/- adorn.closed, adorn.Open. -/
import Derived.Test.YtigfnhbbfbnicaaN14
import Derived.Test.YtigfnhbbfbnicaaC
namespace Go.Proofs.YtigfnhbbfbnicaaA
open Go Go.RowKit
set_option linter.all false
set_option linter.unusedSectionVars false
set_option linter.constructorNameAsVariable false
set_option linter.unusedVariables false
set_option linter.unusedSimpArgs false
section
variable {H : List Blk} {ms : SM} {names : List ByteArray} (h1 : H[1]? = some ⟨0, 0, 0, false, [], .map (encM ms)⟩) (h2 : H[2]? = some ⟨64, 1, 0, false, [.mp 1 0], .cells⟩)
include h1 h2
end
def needsE (p : ProgT) : List (Nat × Nat) := (needsT p).map fun z => (z.1.toNat, z.2.toNat)
theorem needsT_at {p : ProgT} {z : I2} (h : z ∈ needsT p) : ∃ r ∈ p.rules, ∃ l ∈ r.body, ∃ s ∈ usesT l, z = ((posS (namesT p) r.head.p : Int), (posS (namesT p) s : Int)) := by
  have h := (Ord.nsort_mem linP2 _ _).1 h
  unfold rawN rawR at h
  obtain ⟨r, hr, h⟩ := List.mem_flatMap.1 h
  obtain ⟨q, hq, rfl⟩ := List.mem_map.1 h
  unfold eachL at hq
  obtain ⟨l, hl, hq⟩ := List.mem_flatMap.1 hq
  obtain ⟨s, hs, rfl⟩ := List.mem_map.1 hq
  exact ⟨r, hr, l, hl, s, hs, rfl⟩
theorem needsE_enc (p : ProgT) : (needsE p).map toI2 = needsT p := by
  unfold needsE
  rw [List.map_map]
  conv => rhs; rw [← List.map_id (needsT p)]
  refine List.map_congr_left fun z hz => ?_
  obtain ⟨r, _, l, _, s, _, rfl⟩ := needsT_at hz
  rfl
theorem head_named {p : ProgT} {r : RuleT} (hr : r ∈ p.rules) : r.head.p ∈ namesT p := (Ord.nsort_mem Ord.linS _ _).2 (by
    simp only [allN, List.mem_cons, List.mem_flatMap]
    exact .inr ⟨r, hr, by simp [ruleN]⟩)
theorem uses_named {p : ProgT} {r : RuleT} (hr : r ∈ p.rules) {l : LitT} (hl : l ∈ r.body) {s : ByteArray} (hs : s ∈ usesT l) : s ∈ namesT p := (Ord.nsort_mem Ord.linS _ _).2 (by
    simp only [allN, List.mem_cons, List.mem_flatMap]
    refine .inr ⟨r, hr, ?_⟩
    simp only [ruleN, List.mem_cons, List.mem_map, eachL, List.mem_flatMap]
    exact .inr ⟨(l, s), ⟨l, hl, s, hs, rfl⟩, rfl⟩)
theorem needsE_lt {p : ProgT} : ∀ x ∈ needsE p, x.1 < (namesT p).length ∧ x.2 < (namesT p).length := by
  intro x hx
  obtain ⟨z, hz, rfl⟩ := List.mem_map.1 hx
  obtain ⟨r, hr, l, hl, s, hs, rfl⟩ := needsT_at hz
  obtain ⟨h1, _⟩ := posS_mem (namesT_up p) (head_named hr)
  obtain ⟨h2, _⟩ := posS_mem (namesT_up p) (uses_named hr hl hs)
  exact ⟨h1, h2⟩
end Go.Proofs.YtigfnhbbfbnicaaA
