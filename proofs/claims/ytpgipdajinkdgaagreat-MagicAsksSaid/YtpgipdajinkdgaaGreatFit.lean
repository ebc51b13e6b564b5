/- A part of the proof of MagicAsks: functions of the program, run by the evaluator. -/

/- The program fits the evaluator. -/
import Derived.Test.YtpgipdajinkdgaaGreatO2
import Derived.Test.YtpgipdajinkdgaaGreatSrt2
namespace Go.Proofs.YtpgipdajinkdgaaGreatA
open Go Go.RowKit
set_option linter.all false
set_option linter.unusedSectionVars false
set_option linter.constructorNameAsVariable false
theorem fitB_true : fitB Tryz.prog cf0 = true := by kernel_rfl
theorem fit0 : Fit Tryz.prog cf0 := Fit.of (by kernel_rfl) (fun _ => rfl) fitB_true
theorem clones116 : clones Tryz.prog cf0 116 := by
  intro A cap H
  cases A with
  | none =>
    refine .inl ((arun_body (k := 4) rfl rfl Tryz.func116 rfl (N := 8) rfl).trans ?_)
    simp only [R0, RC, zipEnv, Nat.reduceLT, Nat.reduceAdd, Nat.reduceEqDiff, Nat.reduceLeDiff, reduceCtorEq, ↓reduceIte, ares, aresult, pr, Int.reduceEq, Int.reduceLT, Int.reduceLE, Nat.reduceSub, Nat.reduceMul, aFieldAddr, aField, aLoad, aStore, aExtract, aBox, aint, rdVar, rdCells, Value.oneCell', splice, Int.reduceNeg, zvar1, chunks, depth, some_map, Nat.reduceBEq, cf_dyn, okU, fz0_116, Tryz.f116, rf116, aBin_slnil Tryz.underlying36, Option.isNone_none]
  | some a =>
    refine .inr ((arun_body (k := 4) rfl rfl Tryz.func116 rfl (N := 8) rfl).trans ?_)
    simp only [R0, RC, zipEnv, Nat.reduceLT, Nat.reduceAdd, Nat.reduceEqDiff, Nat.reduceLeDiff, reduceCtorEq, ↓reduceIte, ares, aresult, pr, Int.reduceEq, Int.reduceLT, Int.reduceLE, Nat.reduceSub, Nat.reduceMul, aFieldAddr, aField, aLoad, aStore, aExtract, aBox, aint, rdVar, rdCells, Value.oneCell', splice, Int.reduceNeg, zvar1, chunks, depth, some_map, Nat.reduceBEq, cf_dyn, okU, fz0_116, Tryz.f116, rf116, aBin_slnil Tryz.underlying36, Option.isNone_some, app_z_sc ro36]
theorem fit : Fit Tryz.prog cf where
  mix := fit0.mix
  name := fit0.name
  use := fit0.use
  prim f p args H r H' hf h := by
    have hf : prims f = some p := hf
    unfold prims at hf
    split at hf
    · rename_i hc
      cases hf
      have hall : clones Tryz.prog cf0 f := by
        unfold cloner at hc
        obtain rfl := Nat.eq_of_beq_eq_true hc
        exact clones116
      exact clone_ok fit0 hall h
    · split at hf
      · rename_i hc
        cases hf
        obtain rfl := Nat.eq_of_beq_eq_true hc
        exact sort_ok ⟨_, Tryz.func98, by decide, rfl⟩ sortC h
      · split at hf
        · rename_i hc
          cases hf
          obtain rfl := Nat.eq_of_beq_eq_true hc
          exact compact_ok ⟨_, Tryz.func99, by decide, rfl⟩ compactC h
        · split at hf
          · rename_i hc
            cases hf
            obtain rfl := Nat.eq_of_beq_eq_true hc
            exact sortF_ok ⟨_, Tryz.func79, by decide, rfl⟩ (sortFC (cmpC_of fit0 fun x y => clo_cmp x y 1005 (Nat.le_refl _))) h
          · cases hf
end Go.Proofs.YtpgipdajinkdgaaGreatA
