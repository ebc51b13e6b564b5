/- A part of the proof of StrataFewer: functions of the program, run by the evaluator. -/

/- The program fits the evaluator. -/
import Derived.Test.YtigfnhbbfbnicaaO2
import Derived.Test.YtigfnhbbfbnicaaSrt2
namespace Go.Proofs.YtigfnhbbfbnicaaA
open Go Go.RowKit
set_option linter.all false
set_option linter.unusedSectionVars false
set_option linter.constructorNameAsVariable false
theorem fitB_true : fitB Try.prog cf0 = true := by kernel_rfl
theorem fit0 : Fit Try.prog cf0 := Fit.of (by kernel_rfl) (fun _ => rfl) fitB_true
theorem clones90 : clones Try.prog cf0 90 := by
  intro A cap H
  cases A with
  | none =>
    refine .inl ((arun_body (k := 4) rfl rfl Try.func90 rfl (N := 8) rfl).trans ?_)
    simp only [R0, RC, zipEnv, Nat.reduceLT, Nat.reduceAdd, Nat.reduceEqDiff, Nat.reduceLeDiff, reduceCtorEq, ↓reduceIte, ares, aresult, pr, Int.reduceEq, Int.reduceLT, Int.reduceLE, Nat.reduceSub, Nat.reduceMul, aFieldAddr, aField, aLoad, aStore, aExtract, aBox, aint, rdVar, rdCells, Value.oneCell', splice, Int.reduceNeg, zvar1, chunks, depth, some_map, Nat.reduceBEq, cf_dyn, okU, fz0_90, Try.f90, rf90, aBin_slnil Try.underlying34, Option.isNone_none]
  | some a =>
    refine .inr ((arun_body (k := 4) rfl rfl Try.func90 rfl (N := 8) rfl).trans ?_)
    simp only [R0, RC, zipEnv, Nat.reduceLT, Nat.reduceAdd, Nat.reduceEqDiff, Nat.reduceLeDiff, reduceCtorEq, ↓reduceIte, ares, aresult, pr, Int.reduceEq, Int.reduceLT, Int.reduceLE, Nat.reduceSub, Nat.reduceMul, aFieldAddr, aField, aLoad, aStore, aExtract, aBox, aint, rdVar, rdCells, Value.oneCell', splice, Int.reduceNeg, zvar1, chunks, depth, some_map, Nat.reduceBEq, cf_dyn, okU, fz0_90, Try.f90, rf90, aBin_slnil Try.underlying34, Option.isNone_some, app_z_sc ro34]
theorem fit : Fit Try.prog cf where
  mix := fit0.mix
  name := fit0.name
  use := fit0.use
  prim f p args H r H' hf h := by
    have hf : prims f = some p := hf
    unfold prims at hf
    split at hf
    · rename_i hc
      cases hf
      have hall : clones Try.prog cf0 f := by
        unfold cloner at hc
        obtain rfl := Nat.eq_of_beq_eq_true hc
        exact clones90
      exact clone_ok fit0 hall h
    · split at hf
      · rename_i hc
        cases hf
        obtain rfl := Nat.eq_of_beq_eq_true hc
        exact sort_ok ⟨_, Try.func57, by decide, rfl⟩ sortC h
      · split at hf
        · rename_i hc
          cases hf
          obtain rfl := Nat.eq_of_beq_eq_true hc
          exact compact_ok ⟨_, Try.func58, by decide, rfl⟩ compactC h
        · split at hf
          · rename_i hc
            cases hf
            obtain rfl := Nat.eq_of_beq_eq_true hc
            exact sortF_ok ⟨_, Try.func33, by decide, rfl⟩ (sortFC (cmpC_of fit0 fun x y => clo_cmp x y 1005 (Nat.le_refl _))) h
          · cases hf
end Go.Proofs.YtigfnhbbfbnicaaA
