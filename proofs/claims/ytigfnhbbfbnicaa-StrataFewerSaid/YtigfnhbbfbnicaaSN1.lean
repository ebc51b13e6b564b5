/- A part of the proof of StrataFewer: functions of the program, run by the evaluator. -/

/- StrataNames: where a name stands. -/
import Derived.Test.YtigfnhbbfbnicaaN8
import Derived.Test.YtigfnhbbfbnicaaFew
namespace Go.Proofs.YtigfnhbbfbnicaaA
open Go Go.RowKit
set_option linter.all false
set_option linter.unusedSectionVars false
set_option linter.constructorNameAsVariable false
set_option linter.unusedVariables false
set_option linter.unusedSimpArgs false
theorem few13_run (p : ProgT) (k : Nat) (hk : 1010 ≤ k) : ∃ r : Bool, val Try.prog cf k 7 [.agg p.c] = some (.sc (.bool r)) ∧ (r = true → FewT p 10 8) := by
  obtain ⟨k, rfl⟩ : ∃ j, k = j + 1 := ⟨k - 1, by omega⟩
  obtain ⟨r, e, h⟩ := few_run p 10 8 (by omega) (by omega) k (by omega)
  refine ⟨r, val_of (r := .sc (.bool r)) (H1 := []) ?_ rfl rfl, h⟩
  rw [arun_body rfl rfl Try.func7 rfl (N := 5) rfl]
  simp only [ProgT.c] at e
  have e' : val Try.prog cf k 22 [.agg [mkL 4 (p.rules.map RuleT.c), .sc (.string p.query.p), mkL 4 (p.query.args.map TermT.c)], .sc (.int .i64 10), .sc (.int .i64 8)] = some (.sc (.bool r)) := e
  simp only [R0, RC, zipEnv, Nat.reduceLT, Nat.reduceAdd, Nat.reduceEqDiff, Nat.reduceLeDiff, reduceCtorEq, ↓reduceIte, ares, aresult, pr, Int.reduceEq, Int.reduceLT, Int.reduceLE, Nat.reduceSub, Nat.reduceMul, aFieldAddr, aField, aLoad, aStore, aExtract, aBox, aint, rdVar, rdCells, Value.oneCell', splice, Int.reduceNeg, zvar1, chunks, depth, some_map, Nat.reduceBEq, cf_dyn, okU, Try.f7, rf7, ProgT.c, e']
theorem eachL_len (ls : List LitT) : (eachL ls).length ≤ stepsOf ls + ls.length := by
  induction ls with
  | nil => simp [eachL, stepsOf]
  | cons l ls ih =>
    have := usesT_len l
    unfold eachL stepsOf at *
    simp only [List.flatMap_cons, List.length_append, List.length_map, List.map_cons, List.sum_cons, List.length_cons] at *
    omega
theorem flatN_len : ∀ (rs : List RuleT) (b : Nat), (∀ r ∈ rs, r.body.length ≤ b) → (rs.flatMap ruleN).length ≤ stepsOf (rs.flatMap (·.body)) + rs.length * (b + 1)
  | [], b, _ => by simp
  | r :: rs, b, h => by
    have h1 := flatN_len rs b (fun x hx => h x (by simp [hx]))
    have h2 := eachL_len r.body
    have h3 := h r (by simp)
    have e : stepsOf (List.flatMap (·.body) (r :: rs)) = stepsOf r.body + stepsOf (rs.flatMap (·.body)) := by
      unfold stepsOf
      simp [List.flatMap_cons]
    rw [e]
    simp only [List.flatMap_cons, List.length_append, ruleN, List.length_cons, List.length_map, Nat.add_mul, Nat.one_mul] at *
    omega
theorem allN_len (p : ProgT) (a b : Nat) (F : FewT p a b) : (allN p).length ≤ 61 + a * (b + 1) := by
  have h1 := flatN_len p.rules b F.body
  have h2 := F.steps
  have h3 := Nat.mul_le_mul_right (b + 1) F.rules
  simp only [allN, List.length_cons]
  omega
end Go.Proofs.YtigfnhbbfbnicaaA
