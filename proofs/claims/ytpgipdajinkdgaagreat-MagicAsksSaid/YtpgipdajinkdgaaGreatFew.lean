/- A part of the proof of MagicAsks: functions of the program, run by the evaluator. -/

/- Is a program of a size that is looked at? -/
import Derived.Test.YtpgipdajinkdgaaGreatA
namespace Go.Proofs.YtpgipdajinkdgaaGreatA
open Go Go.RowKit
set_option linter.all false
set_option linter.unusedSectionVars false
set_option linter.constructorNameAsVariable false
set_option linter.unusedVariables false
set_option linter.unusedSimpArgs false
def stepsOf (l : List LitT) : Nat := (l.map (·.path.length)).sum
theorem stepsOf_take {l : List LitT} {i : Nat} {x : LitT} (h : l[i]? = some x) : stepsOf (l.take (i + 1)) = stepsOf (l.take i) + x.path.length := by
  obtain ⟨hi, rfl⟩ := List.getElem?_eq_some_iff.1 h
  unfold stepsOf
  rw [List.take_succ_eq_append_getElem hi, List.map_append, List.sum_append]
  simp
structure FewT (p : ProgT) (a b : Nat) : Prop where
  rules : p.rules.length ≤ a
  query : p.query.args.length ≤ 10
  body : ∀ r ∈ p.rules, r.body.length ≤ b
  head : ∀ r ∈ p.rules, r.head.args.length ≤ 10
  path : ∀ r ∈ p.rules, ∀ l ∈ r.body, l.path.length ≤ 30
  args : ∀ r ∈ p.rules, ∀ l ∈ r.body, l.a.args.length ≤ 10
  steps : stepsOf (p.rules.flatMap (·.body)) ≤ 60
theorem gtc (a b : Nat) : ((b : Int) < (a : Int)) = (b < a) := propext (by omega)
theorem few_run (p : ProgT) (a b : Nat) (ha : a ≤ 1000) (hb : b ≤ 1000) (k : Nat) (hk : 1005 ≤ k) : ∃ r : Bool, val Tryz.prog cf k 25 [.agg p.c, .sc (.int .i64 (a : Nat)), .sc (.int .i64 (b : Nat))] = some (.sc (.bool r)) ∧ (r = true → FewT p a b) := by
  obtain ⟨k, rfl⟩ : ∃ j, k = j + 1 := ⟨k - 1, by omega⟩
  have key : ∃ r : Bool, arun Tryz.prog cf (k + 1) 25 [.agg p.c, .sc (.int .i64 (a : Nat)), .sc (.int .i64 (b : Nat))] [] = some (.sc (.bool r), []) ∧ (r = true → FewT p a b) := by
    rw [arun_body rfl rfl Tryz.func25 rfl (N := 86) rfl]
    have c10 : ∀ n : Nat, ((10 : Int) < (n : Int)) = (10 < n) := fun n => propext (by omega)
    have c30 : ∀ n : Nat, ((30 : Int) < (n : Int)) = (30 < n) := fun n => propext (by omega)
    have c60 : ∀ n : Nat, ((60 : Int) < (n : Int)) = (60 < n) := fun n => propext (by omega)
    by_cases g1 : a < p.rules.length
    · exact ⟨false, by simp only [R0, RC, zipEnv, Nat.reduceLT, Nat.reduceAdd, Nat.reduceEqDiff, Nat.reduceLeDiff, reduceCtorEq, ↓reduceIte, ares, aresult, pr, Int.reduceEq, Int.reduceLT, Int.reduceLE, Nat.reduceSub, Nat.reduceMul, aFieldAddr, aField, aLoad, aStore, aExtract, aBox, aint, rdVar, rdCells, Value.oneCell', splice, Int.reduceNeg, zvar1, chunks, depth, some_map, Nat.reduceBEq, cf_dyn, okU, Tryz.f25, rf25, ProgT.c, gtc, g1], fun h => by cases h⟩
    by_cases g2 : 10 < p.query.args.length
    · exact ⟨false, by simp only [R0, RC, zipEnv, Nat.reduceLT, Nat.reduceAdd, Nat.reduceEqDiff, Nat.reduceLeDiff, reduceCtorEq, ↓reduceIte, ares, aresult, pr, Int.reduceEq, Int.reduceLT, Int.reduceLE, Nat.reduceSub, Nat.reduceMul, aFieldAddr, aField, aLoad, aStore, aExtract, aBox, aint, rdVar, rdCells, Value.oneCell', splice, Int.reduceNeg, zvar1, chunks, depth, some_map, Nat.reduceBEq, cf_dyn, okU, Tryz.f25, rf25, ProgT.c, gtc, c10, g1, g2], fun h => by cases h⟩
    simp only [R0, RC, zipEnv, Nat.reduceLT, Nat.reduceAdd, Nat.reduceEqDiff, Nat.reduceLeDiff, reduceCtorEq, ↓reduceIte, ares, aresult, pr, Int.reduceEq, Int.reduceLT, Int.reduceLE, Nat.reduceSub, Nat.reduceMul, aFieldAddr, aField, aLoad, aStore, aExtract, aBox, aint, rdVar, rdCells, Value.oneCell', splice, Int.reduceNeg, zvar1, chunks, depth, some_map, Nat.reduceBEq, cf_dyn, okU, Tryz.f25, rf25, ProgT.c, gtc, c10, g1, g2]
    have hw := wraps (n := p.rules.length) (by omega)
    generalize hA : aloop _ _ _ _ _ _ _ _ _ _ _ = A
    obtain ⟨R, e1, hT⟩ := aloop_T hA [2, 3, 7, 25, 26]
      (fun j s => s = ⟨[(2, .sc (.int .i64 (b : Nat))), (3, .ro [mkL 4 (p.rules.map RuleT.c), .sc (.string p.query.p), mkL 4 (p.query.args.map TermT.c)]), (7, .sc (.int .i64 (stepsOf ((p.rules.take j).flatMap (·.body)) : Nat))), (25, .sc (.int .i64 p.rules.length)), (26, .sc (.int .i64 (j : Nat)))], []⟩ ∧
        (∀ r ∈ p.rules.take j, r.body.length ≤ b ∧ r.head.args.length ≤ 10 ∧ ∀ l ∈ r.body, l.path.length ≤ 30 ∧ l.a.args.length ≤ 10) ∧ stepsOf ((p.rules.take j).flatMap (·.body)) ≤ 60)
      (fun R => (∃ s : St, R = (.ret, s) ∧ eget s.env 6 = .sc (.bool false) ∧ s.heap = []) ∨ ((∃ E : Env, R = (.exit 0, ⟨E, []⟩)) ∧ (∀ r ∈ p.rules, r.body.length ≤ b ∧ r.head.args.length ≤ 10 ∧ ∀ l ∈ r.body, l.path.length ≤ 30 ∧ l.a.args.length ≤ 10) ∧ stepsOf (p.rules.flatMap (·.body)) ≤ 60))
      p.rules.length (by omega) rfl ⟨by simp only [R0, RC, zipEnv, Nat.reduceLT, Nat.reduceAdd, Nat.reduceEqDiff, Nat.reduceLeDiff, reduceCtorEq, ↓reduceIte, ares, aresult, pr, Int.reduceEq, Int.reduceLT, Int.reduceLE, Nat.reduceSub, Nat.reduceMul, aFieldAddr, aField, aLoad, aStore, aExtract, aBox, aint, rdVar, rdCells, Value.oneCell', splice, Int.reduceNeg, zvar1, chunks, depth, some_map, Nat.reduceBEq, cf_dyn, okU, Tryz.f25, rf25]; rfl, fun r hr => by simp at hr, by simp [stepsOf]⟩
      (fun j hj s ⟨hs, hok, hst⟩ => by
        subst hs
        obtain ⟨r, hr⟩ : ∃ r, r = p.rules[j] := ⟨_, rfl⟩
        have hx : p.rules[j]? = some r := by rw [hr]; exact List.getElem?_eq_getElem hj
        by_cases g3 : b < r.body.length
        · right
          exact ⟨_, by simp only [R0, RC, zipEnv, Nat.reduceLT, Nat.reduceAdd, Nat.reduceEqDiff, Nat.reduceLeDiff, reduceCtorEq, ↓reduceIte, ares, aresult, pr, Int.reduceEq, Int.reduceLT, Int.reduceLE, Nat.reduceSub, Nat.reduceMul, aFieldAddr, aField, aLoad, aStore, aExtract, aBox, aint, rdVar, rdCells, Value.oneCell', splice, Int.reduceNeg, zvar1, chunks, depth, some_map, Nat.reduceBEq, cf_dyn, okU, Tryz.f25, rf25, RuleT.c, gtc, c10, hj, hx, g3]; try rfl, rfl, .inl ⟨_, rfl, by simp only [eget_cons, if_true, if_false, reduceCtorEq, Nat.reduceEqDiff], rfl⟩⟩
        by_cases g4 : 10 < r.head.args.length
        · right
          exact ⟨_, by simp only [R0, RC, zipEnv, Nat.reduceLT, Nat.reduceAdd, Nat.reduceEqDiff, Nat.reduceLeDiff, reduceCtorEq, ↓reduceIte, ares, aresult, pr, Int.reduceEq, Int.reduceLT, Int.reduceLE, Nat.reduceSub, Nat.reduceMul, aFieldAddr, aField, aLoad, aStore, aExtract, aBox, aint, rdVar, rdCells, Value.oneCell', splice, Int.reduceNeg, zvar1, chunks, depth, some_map, Nat.reduceBEq, cf_dyn, okU, Tryz.f25, rf25, RuleT.c, gtc, c10, hj, hx, g3, g4]; try rfl, rfl, .inl ⟨_, rfl, by simp only [eget_cons, if_true, if_false, reduceCtorEq, Nat.reduceEqDiff], rfl⟩⟩
        obtain ⟨st, hst'⟩ : ∃ st, st = stepsOf ((p.rules.take j).flatMap (·.body)) := ⟨_, rfl⟩
        have hstep : ∀ i, stepsOf ((p.rules.take j).flatMap (·.body) ++ r.body.take i) = st + stepsOf (r.body.take i) := fun i => by
          rw [hst']
          unfold stepsOf
          rw [List.map_append, List.sum_append]
        have hnext : (p.rules.take (j + 1)).flatMap (·.body) = (p.rules.take j).flatMap (·.body) ++ r.body := by
          rw [hr, List.take_succ_eq_append_getElem hj, List.flatMap_append]
          simp
        rw [← hst'] at hst ⊢
        have hw2 := wraps (n := r.body.length) (by omega)
        simp only [R0, RC, zipEnv, Nat.reduceLT, Nat.reduceAdd, Nat.reduceEqDiff, Nat.reduceLeDiff, reduceCtorEq, ↓reduceIte, ares, aresult, pr, Int.reduceEq, Int.reduceLT, Int.reduceLE, Nat.reduceSub, Nat.reduceMul, aFieldAddr, aField, aLoad, aStore, aExtract, aBox, aint, rdVar, rdCells, Value.oneCell', splice, Int.reduceNeg, zvar1, chunks, depth, some_map, Nat.reduceBEq, cf_dyn, okU, Tryz.f25, rf25, RuleT.c, gtc, c10, hj, hx, g3, g4]
        generalize hB : aloop _ _ _ _ _ _ _ _ _ _ _ = B
        obtain ⟨R2, e2, hT2⟩ := aloop_T hB [2, 3, 7, 9, 25, 26, 48, 49]
          (fun i s => s = ⟨[(2, .sc (.int .i64 (b : Nat))), (3, .ro [mkL 4 (p.rules.map RuleT.c), .sc (.string p.query.p), mkL 4 (p.query.args.map TermT.c)]), (7, .sc (.int .i64 (st + stepsOf (r.body.take i) : Nat))), (9, .ro [.sc (.string r.head.p), mkL 4 (r.head.args.map TermT.c), .sc (.int .i64 r.fold), mkL 17 (r.body.map LitT.c)]), (25, .sc (.int .i64 p.rules.length)), (26, .sc (.int .i64 (j : Nat))), (48, .sc (.int .i64 r.body.length)), (49, .sc (.int .i64 (i : Nat)))], []⟩ ∧
            (∀ l ∈ r.body.take i, l.path.length ≤ 30 ∧ l.a.args.length ≤ 10) ∧ st + stepsOf (r.body.take i) ≤ 60)
          (fun R => (∃ s : St, R = (.ret, s) ∧ eget s.env 6 = .sc (.bool false) ∧ s.heap = []) ∨ (R = (.exit 2, ⟨[(2, .sc (.int .i64 (b : Nat))), (3, .ro [mkL 4 (p.rules.map RuleT.c), .sc (.string p.query.p), mkL 4 (p.query.args.map TermT.c)]), (7, .sc (.int .i64 (st + stepsOf r.body : Nat))), (9, .ro [.sc (.string r.head.p), mkL 4 (r.head.args.map TermT.c), .sc (.int .i64 r.fold), mkL 17 (r.body.map LitT.c)]), (25, .sc (.int .i64 p.rules.length)), (26, .sc (.int .i64 (j : Nat))), (48, .sc (.int .i64 r.body.length)), (49, .sc (.int .i64 r.body.length)), (50, .sc (.bool false))], []⟩) ∧ (∀ l ∈ r.body, l.path.length ≤ 30 ∧ l.a.args.length ≤ 10) ∧ st + stepsOf r.body ≤ 60))
          r.body.length (by omega) rfl ⟨by simp only [R0, RC, zipEnv, Nat.reduceLT, Nat.reduceAdd, Nat.reduceEqDiff, Nat.reduceLeDiff, reduceCtorEq, ↓reduceIte, ares, aresult, pr, Int.reduceEq, Int.reduceLT, Int.reduceLE, Nat.reduceSub, Nat.reduceMul, aFieldAddr, aField, aLoad, aStore, aExtract, aBox, aint, rdVar, rdCells, Value.oneCell', splice, Int.reduceNeg, zvar1, chunks, depth, some_map, Nat.reduceBEq, cf_dyn, okU, Tryz.f25, rf25, List.take_zero, stepsOf, List.sum_nil]; try rfl, fun l hl => by simp at hl, by simp [stepsOf]; omega⟩
          (fun i hi s ⟨hs, hok2, hst2⟩ => by
            subst hs
            obtain ⟨l, hl⟩ : ∃ l, l = r.body[i] := ⟨_, rfl⟩
            have hy : r.body[i]? = some l := by rw [hl]; exact List.getElem?_eq_getElem hi
            by_cases q1 : 30 < l.path.length
            · right
              exact ⟨_, by simp only [R0, RC, zipEnv, Nat.reduceLT, Nat.reduceAdd, Nat.reduceEqDiff, Nat.reduceLeDiff, reduceCtorEq, ↓reduceIte, ares, aresult, pr, Int.reduceEq, Int.reduceLT, Int.reduceLE, Nat.reduceSub, Nat.reduceMul, aFieldAddr, aField, aLoad, aStore, aExtract, aBox, aint, rdVar, rdCells, Value.oneCell', splice, Int.reduceNeg, zvar1, chunks, depth, some_map, Nat.reduceBEq, cf_dyn, okU, Tryz.f25, rf25, RuleT.c, LitT.c, gtc, c10, c30, hj, hx, hi, hy, q1]; try rfl, rfl, .inl ⟨_, rfl, by simp only [eget_cons, if_true, if_false, reduceCtorEq, Nat.reduceEqDiff], rfl⟩⟩
            have hwr : IntKind.i64.wrap (((st + stepsOf (r.body.take i) : Nat) : Int) + (l.path.length : Int)) = ((st + stepsOf (r.body.take (i + 1)) : Nat) : Int) := by
              rw [← Int.natCast_add, wrap_nat (by omega), stepsOf_take hy, Nat.add_assoc]
            by_cases q2 : 10 < l.a.args.length
            · right
              exact ⟨_, by simp only [R0, RC, zipEnv, Nat.reduceLT, Nat.reduceAdd, Nat.reduceEqDiff, Nat.reduceLeDiff, reduceCtorEq, ↓reduceIte, ares, aresult, pr, Int.reduceEq, Int.reduceLT, Int.reduceLE, Nat.reduceSub, Nat.reduceMul, aFieldAddr, aField, aLoad, aStore, aExtract, aBox, aint, rdVar, rdCells, Value.oneCell', splice, Int.reduceNeg, zvar1, chunks, depth, some_map, Nat.reduceBEq, cf_dyn, okU, Tryz.f25, rf25, RuleT.c, LitT.c, gtc, c10, c30, hj, hx, hi, hy, q1, q2, hwr]; try rfl, rfl, .inl ⟨_, rfl, by simp only [eget_cons, if_true, if_false, reduceCtorEq, Nat.reduceEqDiff], rfl⟩⟩
            by_cases q3 : 60 < st + stepsOf (r.body.take (i + 1))
            · right
              exact ⟨_, by simp only [R0, RC, zipEnv, Nat.reduceLT, Nat.reduceAdd, Nat.reduceEqDiff, Nat.reduceLeDiff, reduceCtorEq, ↓reduceIte, ares, aresult, pr, Int.reduceEq, Int.reduceLT, Int.reduceLE, Nat.reduceSub, Nat.reduceMul, aFieldAddr, aField, aLoad, aStore, aExtract, aBox, aint, rdVar, rdCells, Value.oneCell', splice, Int.reduceNeg, zvar1, chunks, depth, some_map, Nat.reduceBEq, cf_dyn, okU, Tryz.f25, rf25, RuleT.c, LitT.c, gtc, c10, c30, c60, hj, hx, hi, hy, q1, q2, q3, hwr]; try rfl, rfl, .inl ⟨_, rfl, by simp only [eget_cons, if_true, if_false, reduceCtorEq, Nat.reduceEqDiff], rfl⟩⟩
            · left
              refine ⟨_, by simp only [R0, RC, zipEnv, Nat.reduceLT, Nat.reduceAdd, Nat.reduceEqDiff, Nat.reduceLeDiff, reduceCtorEq, ↓reduceIte, ares, aresult, pr, Int.reduceEq, Int.reduceLT, Int.reduceLE, Nat.reduceSub, Nat.reduceMul, aFieldAddr, aField, aLoad, aStore, aExtract, aBox, aint, rdVar, rdCells, Value.oneCell', splice, Int.reduceNeg, zvar1, chunks, depth, some_map, Nat.reduceBEq, cf_dyn, okU, Tryz.f25, rf25, RuleT.c, LitT.c, gtc, c10, c30, c60, hj, hx, hi, hy, q1, q2, q3, hwr, hw2 i hi]; try rfl, rfl, fun x hx' => ?_, by omega⟩
              rw [List.take_succ_eq_append_getElem hi, List.mem_append, List.mem_singleton] at hx'
              rcases hx' with h | h
              · exact hok2 x h
              · rw [h, ← hl]; omega)
          (fun s ⟨hs, hok2, hst2⟩ => by
            subst hs
            rw [List.take_length] at hok2 hst2 ⊢
            exact ⟨_, by simp only [R0, RC, zipEnv, Nat.reduceLT, Nat.reduceAdd, Nat.reduceEqDiff, Nat.reduceLeDiff, reduceCtorEq, ↓reduceIte, ares, aresult, pr, Int.reduceEq, Int.reduceLT, Int.reduceLE, Nat.reduceSub, Nat.reduceMul, aFieldAddr, aField, aLoad, aStore, aExtract, aBox, aint, rdVar, rdCells, Value.oneCell', splice, Int.reduceNeg, zvar1, chunks, depth, some_map, Nat.reduceBEq, cf_dyn, okU, Tryz.f25, rf25]; try rfl, rfl, .inr ⟨rfl, hok2, hst2⟩⟩)
        rcases hT2 with ⟨s, rfl, h6, hh⟩ | ⟨rfl, hok2, hst2⟩
        · right
          rw [e2]
          exact ⟨_, by simp only [R0, RC, zipEnv, Nat.reduceLT, Nat.reduceAdd, Nat.reduceEqDiff, Nat.reduceLeDiff, reduceCtorEq, ↓reduceIte, ares, aresult, pr, Int.reduceEq, Int.reduceLT, Int.reduceLE, Nat.reduceSub, Nat.reduceMul, aFieldAddr, aField, aLoad, aStore, aExtract, aBox, aint, rdVar, rdCells, Value.oneCell', splice, Int.reduceNeg, zvar1, chunks, depth, some_map, Nat.reduceBEq, cf_dyn, okU, Tryz.f25, rf25]; try rfl, rfl, .inl ⟨_, rfl, h6, hh⟩⟩
        · left
          rw [e2, hnext]
          have e3 := hstep r.body.length
          rw [List.take_length] at e3
          rw [e3]
          refine ⟨_, by simp only [R0, RC, zipEnv, Nat.reduceLT, Nat.reduceAdd, Nat.reduceEqDiff, Nat.reduceLeDiff, reduceCtorEq, ↓reduceIte, ares, aresult, pr, Int.reduceEq, Int.reduceLT, Int.reduceLE, Nat.reduceSub, Nat.reduceMul, aFieldAddr, aField, aLoad, aStore, aExtract, aBox, aint, rdVar, rdCells, Value.oneCell', splice, Int.reduceNeg, zvar1, chunks, depth, some_map, Nat.reduceBEq, cf_dyn, okU, Tryz.f25, rf25, hw j hj]; try rfl, rfl, fun x hx' => ?_, hst2⟩
          rw [List.take_succ_eq_append_getElem hj, List.mem_append, List.mem_singleton] at hx'
          rcases hx' with h | h
          · exact hok x h
          · rw [h, ← hr]
            exact ⟨by omega, by omega, hok2⟩)
      (fun s ⟨hs, hok, hst⟩ => by
        subst hs
        rw [List.take_length] at hok hst ⊢
        exact ⟨_, by simp only [R0, RC, zipEnv, Nat.reduceLT, Nat.reduceAdd, Nat.reduceEqDiff, Nat.reduceLeDiff, reduceCtorEq, ↓reduceIte, ares, aresult, pr, Int.reduceEq, Int.reduceLT, Int.reduceLE, Nat.reduceSub, Nat.reduceMul, aFieldAddr, aField, aLoad, aStore, aExtract, aBox, aint, rdVar, rdCells, Value.oneCell', splice, Int.reduceNeg, zvar1, chunks, depth, some_map, Nat.reduceBEq, cf_dyn, okU, Tryz.f25, rf25]; try rfl, rfl, .inr ⟨⟨_, rfl⟩, hok, hst⟩⟩)
    rcases hT with ⟨s, rfl, h6, hh⟩ | ⟨⟨E, rfl⟩, hok, hst⟩
    · refine ⟨false, ?_, fun h => by cases h⟩
      rw [e1]
      simp only [R0, RC, zipEnv, Nat.reduceLT, Nat.reduceAdd, Nat.reduceEqDiff, Nat.reduceLeDiff, reduceCtorEq, ↓reduceIte, ares, aresult, pr, Int.reduceEq, Int.reduceLT, Int.reduceLE, Nat.reduceSub, Nat.reduceMul, aFieldAddr, aField, aLoad, aStore, aExtract, aBox, aint, rdVar, rdCells, Value.oneCell', splice, Int.reduceNeg, zvar1, chunks, depth, some_map, Nat.reduceBEq, cf_dyn, okU, Tryz.f25, rf25, h6, hh]
    · refine ⟨true, ?_, fun _ => ⟨by omega, by omega, fun r hr => (hok r hr).1, fun r hr => (hok r hr).2.1, fun r hr l hl => ((hok r hr).2.2 l hl).1, fun r hr l hl => ((hok r hr).2.2 l hl).2, hst⟩⟩
      rw [e1]
      simp only [R0, RC, zipEnv, Nat.reduceLT, Nat.reduceAdd, Nat.reduceEqDiff, Nat.reduceLeDiff, reduceCtorEq, ↓reduceIte, ares, aresult, pr, Int.reduceEq, Int.reduceLT, Int.reduceLE, Nat.reduceSub, Nat.reduceMul, aFieldAddr, aField, aLoad, aStore, aExtract, aBox, aint, rdVar, rdCells, Value.oneCell', splice, Int.reduceNeg, zvar1, chunks, depth, some_map, Nat.reduceBEq, cf_dyn, okU, Tryz.f25, rf25, eget_eput, if_true]
  obtain ⟨r, e, h⟩ := key
  exact ⟨r, val_of e rfl rfl, h⟩
end Go.Proofs.YtpgipdajinkdgaaGreatA
