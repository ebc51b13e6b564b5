/- A part of the proof of MagicAsks: functions of the program, run by the evaluator. -/

/- Magic's laws: few. -/
import Derived.Test.YtpgipdajinkdgaaGreatM9
import Derived.Test.YtpgipdajinkdgaaGreatFew
namespace Go.Proofs.YtpgipdajinkdgaaGreatA
open Go Go.RowKit
set_option linter.all false
set_option linter.unusedSectionVars false
set_option linter.constructorNameAsVariable false
set_option linter.unusedVariables false
set_option linter.unusedSimpArgs false
set_option maxHeartbeats 1000000 in
theorem few17_run (p : ProgT) (k : Nat) (hk : 1010 ≤ k) : ∃ r : Bool, val Tryz.prog cf k 14 [.agg p.c] = some (.sc (.bool r)) ∧ (r = true → FewT p 8 5 ∧ p.query.args.length ≤ 3 ∧ ∀ r ∈ p.rules, ∀ l ∈ r.body, l.a.args.length ≤ 3) := by
  obtain ⟨k, rfl⟩ : ∃ j, k = j + 1 := ⟨k - 1, by omega⟩
  have key : ∃ r : Bool, arun Tryz.prog cf (k + 1) 14 [.agg p.c] [] = some (.sc (.bool r), []) ∧ (r = true → FewT p 8 5 ∧ p.query.args.length ≤ 3 ∧ ∀ r ∈ p.rules, ∀ l ∈ r.body, l.a.args.length ≤ 3) := by
    obtain ⟨r0, e0, h0⟩ := few_run p 8 5 (by omega) (by omega) k (by omega)
    have c3 : ∀ n : Nat, ((3 : Int) < (n : Int)) = (3 < n) := fun n => propext (by omega)
    rw [show (((8 : Nat) : Int)) = 8 from rfl, show (((5 : Nat) : Int)) = 5 from rfl] at e0
    simp only [ProgT.c] at e0
    rw [arun_body rfl rfl Tryz.func14 rfl (N := 46) rfl]
    cases r0 with
    | false => exact ⟨false, by simp only [R0, RC, zipEnv, Nat.reduceLT, Nat.reduceAdd, Nat.reduceEqDiff, Nat.reduceLeDiff, reduceCtorEq, ↓reduceIte, ares, aresult, pr, Int.reduceEq, Int.reduceLT, Int.reduceLE, Nat.reduceSub, Nat.reduceMul, aFieldAddr, aField, aLoad, aStore, aExtract, aBox, aint, rdVar, rdCells, Value.oneCell', splice, Int.reduceNeg, zvar1, chunks, depth, some_map, Nat.reduceBEq, cf_dyn, okU, Tryz.f14, rf14, ProgT.c, e0], fun h => by cases h⟩
    | true =>
    have hF := h0 rfl
    have hRl := hF.rules
    by_cases g1 : 3 < p.query.args.length
    · exact ⟨false, by simp only [R0, RC, zipEnv, Nat.reduceLT, Nat.reduceAdd, Nat.reduceEqDiff, Nat.reduceLeDiff, reduceCtorEq, ↓reduceIte, ares, aresult, pr, Int.reduceEq, Int.reduceLT, Int.reduceLE, Nat.reduceSub, Nat.reduceMul, aFieldAddr, aField, aLoad, aStore, aExtract, aBox, aint, rdVar, rdCells, Value.oneCell', splice, Int.reduceNeg, zvar1, chunks, depth, some_map, Nat.reduceBEq, cf_dyn, okU, Tryz.f14, rf14, ProgT.c, e0, c3, g1], fun h => by cases h⟩
    simp only [R0, RC, zipEnv, Nat.reduceLT, Nat.reduceAdd, Nat.reduceEqDiff, Nat.reduceLeDiff, reduceCtorEq, ↓reduceIte, ares, aresult, pr, Int.reduceEq, Int.reduceLT, Int.reduceLE, Nat.reduceSub, Nat.reduceMul, aFieldAddr, aField, aLoad, aStore, aExtract, aBox, aint, rdVar, rdCells, Value.oneCell', splice, Int.reduceNeg, zvar1, chunks, depth, some_map, Nat.reduceBEq, cf_dyn, okU, Tryz.f14, rf14, ProgT.c, e0, c3, g1]
    have hw := wraps (n := p.rules.length) (by omega)
    generalize hA : aloop _ _ _ _ _ _ _ _ _ _ _ = A
    obtain ⟨R, e1, hT⟩ := aloop_T hA [1, 17, 18]
      (fun j s => s = ⟨[(1, .ro [mkL 4 (p.rules.map RuleT.c), .sc (.string p.query.p), mkL 4 (p.query.args.map TermT.c)]), (17, .sc (.int .i64 p.rules.length)), (18, .sc (.int .i64 (j : Nat)))], []⟩ ∧ (∀ r ∈ p.rules.take j, ∀ l ∈ r.body, l.a.args.length ≤ 3))
      (fun R => (∃ s : St, R = (.ret, s) ∧ eget s.env 2 = .sc (.bool false) ∧ s.heap = []) ∨ ((∃ E : Env, R = (.exit 0, ⟨E, []⟩)) ∧ (∀ r ∈ p.rules, ∀ l ∈ r.body, l.a.args.length ≤ 3)))
      p.rules.length (by omega) rfl ⟨by simp only [R0, RC, zipEnv, Nat.reduceLT, Nat.reduceAdd, Nat.reduceEqDiff, Nat.reduceLeDiff, reduceCtorEq, ↓reduceIte, ares, aresult, pr, Int.reduceEq, Int.reduceLT, Int.reduceLE, Nat.reduceSub, Nat.reduceMul, aFieldAddr, aField, aLoad, aStore, aExtract, aBox, aint, rdVar, rdCells, Value.oneCell', splice, Int.reduceNeg, zvar1, chunks, depth, some_map, Nat.reduceBEq, cf_dyn, okU, Tryz.f14, rf14]; rfl, fun r hr => by simp at hr⟩
      (fun j hj s ⟨hs, hok⟩ => by
        subst hs
        obtain ⟨r, hr⟩ : ∃ r, r = p.rules[j] := ⟨_, rfl⟩
        have hx : p.rules[j]? = some r := by rw [hr]; exact List.getElem?_eq_getElem hj
        have hrm : r ∈ p.rules := by rw [hr]; exact List.getElem_mem hj
        have hbl := hF.body r hrm
        have hw2 := wraps (n := r.body.length) (by omega)
        simp only [R0, RC, zipEnv, Nat.reduceLT, Nat.reduceAdd, Nat.reduceEqDiff, Nat.reduceLeDiff, reduceCtorEq, ↓reduceIte, ares, aresult, pr, Int.reduceEq, Int.reduceLT, Int.reduceLE, Nat.reduceSub, Nat.reduceMul, aFieldAddr, aField, aLoad, aStore, aExtract, aBox, aint, rdVar, rdCells, Value.oneCell', splice, Int.reduceNeg, zvar1, chunks, depth, some_map, Nat.reduceBEq, cf_dyn, okU, Tryz.f14, rf14, RuleT.c, c3, hj, hx]
        generalize hB : aloop _ _ _ _ _ _ _ _ _ _ _ = B
        obtain ⟨R2, e2, hT2⟩ := aloop_T hB [1, 3, 17, 18, 27, 28]
          (fun i s => s = ⟨[(1, .ro [mkL 4 (p.rules.map RuleT.c), .sc (.string p.query.p), mkL 4 (p.query.args.map TermT.c)]), (3, .sc (.int .i64 (j : Nat))), (17, .sc (.int .i64 p.rules.length)), (18, .sc (.int .i64 (j : Nat))), (27, .sc (.int .i64 r.body.length)), (28, .sc (.int .i64 (i : Nat)))], []⟩ ∧ (∀ l ∈ r.body.take i, l.a.args.length ≤ 3))
          (fun R => (∃ s : St, R = (.ret, s) ∧ eget s.env 2 = .sc (.bool false) ∧ s.heap = []) ∨ (R = (.exit 2, ⟨[(1, .ro [mkL 4 (p.rules.map RuleT.c), .sc (.string p.query.p), mkL 4 (p.query.args.map TermT.c)]), (3, .sc (.int .i64 (j : Nat))), (17, .sc (.int .i64 p.rules.length)), (18, .sc (.int .i64 (j : Nat))), (27, .sc (.int .i64 r.body.length)), (28, .sc (.int .i64 r.body.length)), (29, .sc (.bool false))], []⟩) ∧ (∀ l ∈ r.body, l.a.args.length ≤ 3)))
          r.body.length (by omega) rfl ⟨by simp only [R0, RC, zipEnv, Nat.reduceLT, Nat.reduceAdd, Nat.reduceEqDiff, Nat.reduceLeDiff, reduceCtorEq, ↓reduceIte, ares, aresult, pr, Int.reduceEq, Int.reduceLT, Int.reduceLE, Nat.reduceSub, Nat.reduceMul, aFieldAddr, aField, aLoad, aStore, aExtract, aBox, aint, rdVar, rdCells, Value.oneCell', splice, Int.reduceNeg, zvar1, chunks, depth, some_map, Nat.reduceBEq, cf_dyn, okU, Tryz.f14, rf14]; try rfl, fun l hl => by simp at hl⟩
          (fun i hi s ⟨hs, hok2⟩ => by
            subst hs
            obtain ⟨l, hl⟩ : ∃ l, l = r.body[i] := ⟨_, rfl⟩
            have hy : r.body[i]? = some l := by rw [hl]; exact List.getElem?_eq_getElem hi
            by_cases q1 : 3 < l.a.args.length
            · right
              exact ⟨_, by simp only [R0, RC, zipEnv, Nat.reduceLT, Nat.reduceAdd, Nat.reduceEqDiff, Nat.reduceLeDiff, reduceCtorEq, ↓reduceIte, ares, aresult, pr, Int.reduceEq, Int.reduceLT, Int.reduceLE, Nat.reduceSub, Nat.reduceMul, aFieldAddr, aField, aLoad, aStore, aExtract, aBox, aint, rdVar, rdCells, Value.oneCell', splice, Int.reduceNeg, zvar1, chunks, depth, some_map, Nat.reduceBEq, cf_dyn, okU, Tryz.f14, rf14, RuleT.c, LitT.c, c3, hj, hx, hi, hy, q1]; try rfl, rfl, .inl ⟨_, rfl, by simp only [eget_cons, if_true, if_false, reduceCtorEq, Nat.reduceEqDiff], rfl⟩⟩
            · left
              refine ⟨_, by simp only [R0, RC, zipEnv, Nat.reduceLT, Nat.reduceAdd, Nat.reduceEqDiff, Nat.reduceLeDiff, reduceCtorEq, ↓reduceIte, ares, aresult, pr, Int.reduceEq, Int.reduceLT, Int.reduceLE, Nat.reduceSub, Nat.reduceMul, aFieldAddr, aField, aLoad, aStore, aExtract, aBox, aint, rdVar, rdCells, Value.oneCell', splice, Int.reduceNeg, zvar1, chunks, depth, some_map, Nat.reduceBEq, cf_dyn, okU, Tryz.f14, rf14, RuleT.c, LitT.c, c3, hj, hx, hi, hy, q1, hw2 i hi]; try rfl, rfl, fun x hx' => ?_⟩
              rw [List.take_succ_eq_append_getElem hi, List.mem_append, List.mem_singleton] at hx'
              rcases hx' with h | h
              · exact hok2 x h
              · rw [h, ← hl]; omega)
          (fun s ⟨hs, hok2⟩ => by
            subst hs
            rw [List.take_length] at hok2
            exact ⟨_, by simp only [R0, RC, zipEnv, Nat.reduceLT, Nat.reduceAdd, Nat.reduceEqDiff, Nat.reduceLeDiff, reduceCtorEq, ↓reduceIte, ares, aresult, pr, Int.reduceEq, Int.reduceLT, Int.reduceLE, Nat.reduceSub, Nat.reduceMul, aFieldAddr, aField, aLoad, aStore, aExtract, aBox, aint, rdVar, rdCells, Value.oneCell', splice, Int.reduceNeg, zvar1, chunks, depth, some_map, Nat.reduceBEq, cf_dyn, okU, Tryz.f14, rf14]; try rfl, rfl, .inr ⟨rfl, hok2⟩⟩)
        rcases hT2 with ⟨s, rfl, h6, hh⟩ | ⟨rfl, hok2⟩
        · right
          rw [e2]
          exact ⟨_, by simp only [R0, RC, zipEnv, Nat.reduceLT, Nat.reduceAdd, Nat.reduceEqDiff, Nat.reduceLeDiff, reduceCtorEq, ↓reduceIte, ares, aresult, pr, Int.reduceEq, Int.reduceLT, Int.reduceLE, Nat.reduceSub, Nat.reduceMul, aFieldAddr, aField, aLoad, aStore, aExtract, aBox, aint, rdVar, rdCells, Value.oneCell', splice, Int.reduceNeg, zvar1, chunks, depth, some_map, Nat.reduceBEq, cf_dyn, okU, Tryz.f14, rf14]; try rfl, rfl, .inl ⟨_, rfl, h6, hh⟩⟩
        · left
          rw [e2]
          refine ⟨_, by simp only [R0, RC, zipEnv, Nat.reduceLT, Nat.reduceAdd, Nat.reduceEqDiff, Nat.reduceLeDiff, reduceCtorEq, ↓reduceIte, ares, aresult, pr, Int.reduceEq, Int.reduceLT, Int.reduceLE, Nat.reduceSub, Nat.reduceMul, aFieldAddr, aField, aLoad, aStore, aExtract, aBox, aint, rdVar, rdCells, Value.oneCell', splice, Int.reduceNeg, zvar1, chunks, depth, some_map, Nat.reduceBEq, cf_dyn, okU, Tryz.f14, rf14, hw j hj]; try rfl, rfl, fun x hx' => ?_⟩
          rw [List.take_succ_eq_append_getElem hj, List.mem_append, List.mem_singleton] at hx'
          rcases hx' with h | h
          · exact hok x h
          · rw [h, ← hr]
            exact hok2)
      (fun s ⟨hs, hok⟩ => by
        subst hs
        rw [List.take_length] at hok
        exact ⟨_, by simp only [R0, RC, zipEnv, Nat.reduceLT, Nat.reduceAdd, Nat.reduceEqDiff, Nat.reduceLeDiff, reduceCtorEq, ↓reduceIte, ares, aresult, pr, Int.reduceEq, Int.reduceLT, Int.reduceLE, Nat.reduceSub, Nat.reduceMul, aFieldAddr, aField, aLoad, aStore, aExtract, aBox, aint, rdVar, rdCells, Value.oneCell', splice, Int.reduceNeg, zvar1, chunks, depth, some_map, Nat.reduceBEq, cf_dyn, okU, Tryz.f14, rf14]; try rfl, rfl, .inr ⟨⟨_, rfl⟩, hok⟩⟩)
    rcases hT with ⟨s, rfl, h6, hh⟩ | ⟨⟨E, rfl⟩, hok⟩
    · refine ⟨false, ?_, fun h => by cases h⟩
      rw [e1]
      simp only [R0, RC, zipEnv, Nat.reduceLT, Nat.reduceAdd, Nat.reduceEqDiff, Nat.reduceLeDiff, reduceCtorEq, ↓reduceIte, ares, aresult, pr, Int.reduceEq, Int.reduceLT, Int.reduceLE, Nat.reduceSub, Nat.reduceMul, aFieldAddr, aField, aLoad, aStore, aExtract, aBox, aint, rdVar, rdCells, Value.oneCell', splice, Int.reduceNeg, zvar1, chunks, depth, some_map, Nat.reduceBEq, cf_dyn, okU, Tryz.f14, rf14, h6, hh]
    · refine ⟨true, ?_, fun _ => ⟨hF, by omega, hok⟩⟩
      rw [e1]
      simp only [R0, RC, zipEnv, Nat.reduceLT, Nat.reduceAdd, Nat.reduceEqDiff, Nat.reduceLeDiff, reduceCtorEq, ↓reduceIte, ares, aresult, pr, Int.reduceEq, Int.reduceLT, Int.reduceLE, Nat.reduceSub, Nat.reduceMul, aFieldAddr, aField, aLoad, aStore, aExtract, aBox, aint, rdVar, rdCells, Value.oneCell', splice, Int.reduceNeg, zvar1, chunks, depth, some_map, Nat.reduceBEq, cf_dyn, okU, Tryz.f14, rf14, eget_eput, if_true]
  obtain ⟨r, e, h⟩ := key
  exact ⟨r, val_of e rfl rfl, h⟩
theorem eachL_le (ls : List LitT) : (eachL ls).length ≤ stepsOf ls + ls.length := by
  induction ls with
  | nil => simp [eachL, stepsOf]
  | cons l ls ih =>
    have := usesT_len l
    unfold eachL stepsOf at *
    simp only [List.flatMap_cons, List.length_append, List.length_map, List.map_cons, List.sum_cons, List.length_cons] at *
    omega
theorem flatN_le : ∀ (rs : List RuleT) (b : Nat), (∀ r ∈ rs, r.body.length ≤ b) → (rs.flatMap ruleN).length ≤ stepsOf (rs.flatMap (·.body)) + rs.length * (b + 1)
  | [], b, _ => by simp
  | r :: rs, b, h => by
    have h1 := flatN_le rs b (fun x hx => h x (by simp [hx]))
    have h2 := eachL_le r.body
    have h3 := h r (by simp)
    have e : stepsOf (List.flatMap (·.body) (r :: rs)) = stepsOf r.body + stepsOf (rs.flatMap (·.body)) := by
      unfold stepsOf
      simp [List.flatMap_cons]
    rw [e]
    simp only [List.flatMap_cons, List.length_append, ruleN, List.length_cons, List.length_map, Nat.add_mul, Nat.one_mul] at *
    omega
theorem allN_le (p : ProgT) (a b : Nat) (F : FewT p a b) : (allN p).length ≤ 61 + a * (b + 1) := by
  have h1 := flatN_le p.rules b F.body
  have h2 := F.steps
  have h3 := Nat.mul_le_mul_right (b + 1) F.rules
  simp only [allN, List.length_cons]
  omega
theorem patS_nth {bound : List ByteArray} {l : List TermT} {j : Nat} {t : TermT} (h : l[j]? = some t) : byteAt (patS bound l) j = patB bound t := by
  unfold byteAt patS
  rw [List.getD_eq_getElem?_getD]
  simp [h]
theorem plainD_pat (V : List ByteArray) (l : List TermT) : plainD (patS V l) = true := by
  unfold plainD
  rw [List.all_eq_true]
  intro j hj
  rw [List.mem_range] at hj
  have hsz := patS_size (bound := V) (l := l)
  have hat := patS_nth (bound := V) (l := l) (j := j) (t := l[j]'(by omega)) (List.getElem?_eq_getElem (by omega))
  unfold plainB
  rcases patB_or2 (bound := V) (t := l[j]'(by omega)) with h | h
  · rw [hat, h]; rfl
  · rw [hat, h]; rfl
end Go.Proofs.YtpgipdajinkdgaaGreatA
