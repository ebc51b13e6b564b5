/- A part of the proof of AdornAsks: functions of the program, run by the evaluator. -/

/- The program fits the evaluator. -/
import Derived.Test.YtigfnhbbfbnicaaO
import Derived.Test.YtigfnhbbfbnicaaSrt2
namespace Go.Proofs.YtigfnhbbfbnicaaA
open Go Go.RowKit
set_option linter.all false
set_option linter.unusedSectionVars false
set_option linter.constructorNameAsVariable false
theorem fitB_true : fitB Try.prog cf0 = true := by kernel_rfl
theorem fit0 : Fit Try.prog cf0 := Fit.of (by kernel_rfl) (fun _ => rfl) fitB_true
theorem clones90 : clones Try.prog cf0 90 := by
  intro A cap H
  cases A with
  | none =>
    refine .inl ((arun_body (k := 4) rfl rfl Try.func90 rfl (N := 8) rfl).trans ?_)
    simp only [R0, zipEnv, Nat.reduceLT, Nat.reduceAdd, Nat.reduceEqDiff, Nat.reduceLeDiff, if_true, if_false, reduceCtorEq, ↓reduceIte, List.toList_toArray, Option.map_some, Option.bind_some, List.getElem?_toArray, List.getElem?_cons_zero, List.getElem?_cons_succ, List.size_toArray, Bool.not_true, Bool.not_false, decide_true, decide_false, BEq.rfl, Bool.true_eq_false, Bool.false_eq_true, beq_self_eq_true, List.map_cons, List.map_nil, eq_self, decide_eq_true_eq, Nat.lt_irrefl, Int.lt_irrefl, Int.ofNat_lt, ares, aresult, pr, Int.reduceEq, Int.reduceLT, Int.reduceLE, Nat.reduceSub, Nat.reduceMul, bne_self_eq_false, Bool.beq_eq_decide_eq, Bool.and_true, Bool.true_and, Bool.and_false, Bool.false_and, Bool.or_true, Bool.true_or, Bool.or_false, Bool.false_or, aFieldAddr, aField, aLoad, aStore, aExtract, aBox, aint, rdVar, rdCells, Value.oneCell', List.all_cons, List.all_nil, List.length_cons, List.length_nil, List.drop_zero, List.drop_succ_cons, List.take_succ_cons, List.take_zero, Nat.zero_add, Nat.add_zero, List.nil_append, List.cons_append, Int.natCast_nonneg, Int.toNat_natCast, Nat.zero_le, Nat.le_refl, Bool.and_self, Bool.or_self, splice, List.set_cons_zero, List.set_cons_succ, Option.map_none, List.getElem?_nil, gt_iff_lt, ge_iff_le, Nat.lt_add_one, Nat.zero_lt_succ, beq_iff_eq, Nat.mul_zero, Nat.zero_mul, Nat.mul_one, List.append_nil, not_true_eq_false, not_false_eq_true, ne_eq, Bool.not_eq_true, Bool.decide_and, Bool.decide_eq_true, Int.reduceNeg, zvar1, chunks, depth, some_map, List.length_map, List.getElem?_map, Nat.reduceBEq, Bool.not_eq_false, Nat.beq_eq, cf_dyn, okU, fz0_90, Try.f90, rf90, aBin_slnil Try.underlying34, Option.isNone_none]
  | some a =>
    refine .inr ((arun_body (k := 4) rfl rfl Try.func90 rfl (N := 8) rfl).trans ?_)
    simp only [R0, zipEnv, Nat.reduceLT, Nat.reduceAdd, Nat.reduceEqDiff, Nat.reduceLeDiff, if_true, if_false, reduceCtorEq, ↓reduceIte, List.toList_toArray, Option.map_some, Option.bind_some, List.getElem?_toArray, List.getElem?_cons_zero, List.getElem?_cons_succ, List.size_toArray, Bool.not_true, Bool.not_false, decide_true, decide_false, BEq.rfl, Bool.true_eq_false, Bool.false_eq_true, beq_self_eq_true, List.map_cons, List.map_nil, eq_self, decide_eq_true_eq, Nat.lt_irrefl, Int.lt_irrefl, Int.ofNat_lt, ares, aresult, pr, Int.reduceEq, Int.reduceLT, Int.reduceLE, Nat.reduceSub, Nat.reduceMul, bne_self_eq_false, Bool.beq_eq_decide_eq, Bool.and_true, Bool.true_and, Bool.and_false, Bool.false_and, Bool.or_true, Bool.true_or, Bool.or_false, Bool.false_or, aFieldAddr, aField, aLoad, aStore, aExtract, aBox, aint, rdVar, rdCells, Value.oneCell', List.all_cons, List.all_nil, List.length_cons, List.length_nil, List.drop_zero, List.drop_succ_cons, List.take_succ_cons, List.take_zero, Nat.zero_add, Nat.add_zero, List.nil_append, List.cons_append, Int.natCast_nonneg, Int.toNat_natCast, Nat.zero_le, Nat.le_refl, Bool.and_self, Bool.or_self, splice, List.set_cons_zero, List.set_cons_succ, Option.map_none, List.getElem?_nil, gt_iff_lt, ge_iff_le, Nat.lt_add_one, Nat.zero_lt_succ, beq_iff_eq, Nat.mul_zero, Nat.zero_mul, Nat.mul_one, List.append_nil, not_true_eq_false, not_false_eq_true, ne_eq, Bool.not_eq_true, Bool.decide_and, Bool.decide_eq_true, Int.reduceNeg, zvar1, chunks, depth, some_map, List.length_map, List.getElem?_map, Nat.reduceBEq, Bool.not_eq_false, Nat.beq_eq, cf_dyn, okU, fz0_90, Try.f90, rf90, aBin_slnil Try.underlying34, Option.isNone_some, app_z_sc ro34]
theorem fit : Fit Try.prog cf where
  mix := fit0.mix
  name := fit0.name
  use := fit0.use
  prim f p args H r H' hf h := by
    have hf : prims f = some p := hf
    unfold prims at hf
    split at hf
    · rename_i hc
      cases hf
      have hall : clones Try.prog cf0 f := by
        unfold cloner at hc
        obtain rfl := Nat.eq_of_beq_eq_true hc
        exact clones90
      exact clone_ok fit0 hall h
    · split at hf
      · rename_i hc
        cases hf
        obtain rfl := Nat.eq_of_beq_eq_true hc
        exact sort_ok ⟨_, Try.func57, by decide, rfl⟩ sortC h
      · split at hf
        · rename_i hc
          cases hf
          obtain rfl := Nat.eq_of_beq_eq_true hc
          exact compact_ok ⟨_, Try.func58, by decide, rfl⟩ compactC h
        · split at hf
          · rename_i hc
            cases hf
            obtain rfl := Nat.eq_of_beq_eq_true hc
            exact sortF_ok ⟨_, Try.func33, by decide, rfl⟩ (sortFC (cmpC_of fit0 fun x y => clo_cmp x y 1005 (Nat.le_refl _))) h
          · cases hf
end Go.Proofs.YtigfnhbbfbnicaaA
