/- A part of the proof of MagicAsks: functions of the program, run by the evaluator. -/

/- What is the same as itself. -/
import Derived.Test.YtpgipdajinkdgaaGreatM9
namespace Go.Proofs.YtpgipdajinkdgaaGreatA
open Go Go.RowKit
set_option linter.all false
set_option linter.unusedSectionVars false
set_option linter.constructorNameAsVariable false
set_option linter.unusedVariables false
set_option linter.unusedSimpArgs false
theorem heldStep : Tryz.prog.stoodInHeld 105 = false := by kernel_rfl
theorem eqSt {a b : StepT} (d : Nat) : pureRun Tryz.prog (Op.equalIn (d + 2) 105 (.agg #[.int .i64 a.k, .string a.l]) (.agg #[.int .i64 b.k, .string b.l])) = some (decide (a = b)) := by
  rw [pEq_struct Tryz.underlying105 heldStep]
  refine Eq.trans (pFields_cons (by decide) (partI Tryz.underlying3 rfl) (partI Tryz.underlying3 rfl) (eqIn_I Tryz.underlying3 _) (pFields_cons (by decide) (part_S Tryz.underlying9 rfl) (part_S Tryz.underlying9 rfl) (eqIn_S Tryz.underlying9 _) pFields_nil)) ?_
  refine congrArg some ?_
  obtain ⟨a1, a2⟩ := a
  obtain ⟨b1, b2⟩ := b
  rw [Bool.eq_iff_iff]
  simp
theorem guardStep : Tryz.prog.eqGuardType Tryz.prog.depth 105 = false := by kernel_rfl
theorem neStep {H : List Blk} {p q : Operand} {a b : StepT} : aBin Tryz.prog H .neq 105 p q (.agg [.sc (.int .i64 a.k), .sc (.string a.l)]) (.agg [.sc (.int .i64 b.k), .sc (.string b.l)]) = some (.val (.sc (.bool (!decide (a = b))))) := by
  unfold aBin
  rw [nilTest_flat' rfl rfl, ptrTest_flat' rfl]
  have h' : pureRun Tryz.prog (Op.equal 105 (.agg #[.int .i64 a.k, .string a.l]) (.agg #[.int .i64 b.k, .string b.l])) = some (decide (a = b)) := eqSt 9998
  have hgs : pureRun Tryz.prog (eqGuard .neq 105 p q (.agg #[.int .i64 a.k, .string a.l]) (.agg #[.int .i64 b.k, .string b.l])) = some () := by
    simp [eqGuard, pureRun_bind, pureRun_pure, pureRun_program, guardStep]
  simp only [toV, toVs, Option.map_some, Option.isSome_some, Bool.and_self, if_true, Option.getD_some, pOut, pureRun_bind, hgs, Option.bind_some, binOp, h', pureRun_pure, ofV, reduceCtorEq, if_false]
theorem sameAtom_run (a : AtomT) (ha : a.args.length ≤ 1000) (k : Nat) (hk : 1002 ≤ k) : val Tryz.prog cf k 34 [.agg a.c, .agg a.c] = some (.sc (.bool true)) := by
  obtain ⟨k, rfl⟩ : ∃ j, k = j + 1 := ⟨k - 1, by omega⟩
  have hw := wraps (n := a.args.length) (by omega)
  have key : ∃ H', arun Tryz.prog cf (k + 1) 34 [.agg a.c, .agg a.c] [] = some (.sc (.bool true), H') := by
    rw [arun_body rfl rfl Tryz.func34 rfl (N := 38) rfl]
    simp only [R0, RC, zipEnv, Nat.reduceLT, Nat.reduceAdd, Nat.reduceEqDiff, Nat.reduceLeDiff, reduceCtorEq, ↓reduceIte, ares, aresult, pr, Int.reduceEq, Int.reduceLT, Int.reduceLE, Nat.reduceSub, Nat.reduceMul, aFieldAddr, aField, aLoad, aStore, aExtract, aBox, aint, rdVar, rdCells, Value.oneCell', splice, Int.reduceNeg, zvar1, chunks, depth, some_map, Nat.reduceBEq, cf_dyn, okU, Tryz.f34, rf34, AtomT.c]
    generalize hA : aloop _ _ _ _ _ _ _ _ _ _ _ = A
    obtain ⟨s, hs, e⟩ := aloop_inv2 hA [2, 3, 22, 23] (fun j s => s = ⟨[(2, .ro [.sc (.string a.p), mkL 4 (a.args.map TermT.c)]), (3, .ro [.sc (.string a.p), mkL 4 (a.args.map TermT.c)]), (22, .sc (.int .i64 a.args.length)), (23, .sc (.int .i64 (j : Nat)))], []⟩) a.args.length (by omega) rfl (by simp only [R0, RC, zipEnv, Nat.reduceLT, Nat.reduceAdd, Nat.reduceEqDiff, Nat.reduceLeDiff, reduceCtorEq, ↓reduceIte, ares, aresult, pr, Int.reduceEq, Int.reduceLT, Int.reduceLE, Nat.reduceSub, Nat.reduceMul, aFieldAddr, aField, aLoad, aStore, aExtract, aBox, aint, rdVar, rdCells, Value.oneCell', splice, Int.reduceNeg, zvar1, chunks, depth, some_map, Nat.reduceBEq, cf_dyn, okU, Tryz.f34, rf34]; try rfl) (fun j hj s hs => by
      subst hs
      obtain ⟨x, hx⟩ : ∃ x, x = a.args[j] := ⟨_, rfl⟩
      have xj : a.args[j]? = some x := by rw [hx]; exact List.getElem?_eq_getElem hj
      refine ⟨_, by simp only [R0, RC, zipEnv, Nat.reduceLT, Nat.reduceAdd, Nat.reduceEqDiff, Nat.reduceLeDiff, reduceCtorEq, ↓reduceIte, ares, aresult, pr, Int.reduceEq, Int.reduceLT, Int.reduceLE, Nat.reduceSub, Nat.reduceMul, aFieldAddr, aField, aLoad, aStore, aExtract, aBox, aint, rdVar, rdCells, Value.oneCell', splice, Int.reduceNeg, zvar1, chunks, depth, some_map, Nat.reduceBEq, cf_dyn, okU, Tryz.f34, rf34, TermT.c, neTerm, hj, xj, hw j hj], rfl⟩) (fun s hs => by
      subst hs
      simp only [R0, RC, zipEnv, Nat.reduceLT, Nat.reduceAdd, Nat.reduceEqDiff, Nat.reduceLeDiff, reduceCtorEq, ↓reduceIte, ares, aresult, pr, Int.reduceEq, Int.reduceLT, Int.reduceLE, Nat.reduceSub, Nat.reduceMul, aFieldAddr, aField, aLoad, aStore, aExtract, aBox, aint, rdVar, rdCells, Value.oneCell', splice, Int.reduceNeg, zvar1, chunks, depth, some_map, Nat.reduceBEq, cf_dyn, okU, Tryz.f34, rf34])
    subst hs
    rw [e]
    exact ⟨_, by simp only [R0, RC, zipEnv, Nat.reduceLT, Nat.reduceAdd, Nat.reduceEqDiff, Nat.reduceLeDiff, reduceCtorEq, ↓reduceIte, ares, aresult, pr, Int.reduceEq, Int.reduceLT, Int.reduceLE, Nat.reduceSub, Nat.reduceMul, aFieldAddr, aField, aLoad, aStore, aExtract, aBox, aint, rdVar, rdCells, Value.oneCell', splice, Int.reduceNeg, zvar1, chunks, depth, some_map, Nat.reduceBEq, cf_dyn, okU, Tryz.f34, rf34]; rfl⟩
  obtain ⟨H', e⟩ := key
  exact val_of e rfl rfl
theorem samePath_run (a : List StepT) (ha : a.length ≤ 1000) (k : Nat) (hk : 1002 ≤ k) : val Tryz.prog cf k 39 [mkL 2 (a.map StepT.c), mkL 2 (a.map StepT.c)] = some (.sc (.bool true)) := by
  obtain ⟨k, rfl⟩ : ∃ j, k = j + 1 := ⟨k - 1, by omega⟩
  have hw := wraps (n := a.length) (by omega)
  have key : ∃ H', arun Tryz.prog cf (k + 1) 39 [mkL 2 (a.map StepT.c), mkL 2 (a.map StepT.c)] [] = some (.sc (.bool true), H') := by
    rw [arun_body rfl rfl Tryz.func39 rfl (N := 26) rfl]
    simp only [R0, RC, zipEnv, Nat.reduceLT, Nat.reduceAdd, Nat.reduceEqDiff, Nat.reduceLeDiff, reduceCtorEq, ↓reduceIte, ares, aresult, pr, Int.reduceEq, Int.reduceLT, Int.reduceLE, Nat.reduceSub, Nat.reduceMul, aFieldAddr, aField, aLoad, aStore, aExtract, aBox, aint, rdVar, rdCells, Value.oneCell', splice, Int.reduceNeg, zvar1, chunks, depth, some_map, Nat.reduceBEq, cf_dyn, okU, Tryz.f39, rf39]
    generalize hA : aloop _ _ _ _ _ _ _ _ _ _ _ = A
    obtain ⟨s, hs, e⟩ := aloop_inv2 hA [0, 1, 12, 13] (fun j s => s = ⟨[(0, mkL 2 (a.map StepT.c)), (1, mkL 2 (a.map StepT.c)), (12, .sc (.int .i64 a.length)), (13, .sc (.int .i64 (j : Nat)))], []⟩) a.length (by omega) rfl (by simp only [R0, RC, zipEnv, Nat.reduceLT, Nat.reduceAdd, Nat.reduceEqDiff, Nat.reduceLeDiff, reduceCtorEq, ↓reduceIte, ares, aresult, pr, Int.reduceEq, Int.reduceLT, Int.reduceLE, Nat.reduceSub, Nat.reduceMul, aFieldAddr, aField, aLoad, aStore, aExtract, aBox, aint, rdVar, rdCells, Value.oneCell', splice, Int.reduceNeg, zvar1, chunks, depth, some_map, Nat.reduceBEq, cf_dyn, okU, Tryz.f39, rf39]; try rfl) (fun j hj s hs => by
      subst hs
      obtain ⟨x, hx⟩ : ∃ x, x = a[j] := ⟨_, rfl⟩
      have xj : a[j]? = some x := by rw [hx]; exact List.getElem?_eq_getElem hj
      refine ⟨_, by simp only [R0, RC, zipEnv, Nat.reduceLT, Nat.reduceAdd, Nat.reduceEqDiff, Nat.reduceLeDiff, reduceCtorEq, ↓reduceIte, ares, aresult, pr, Int.reduceEq, Int.reduceLT, Int.reduceLE, Nat.reduceSub, Nat.reduceMul, aFieldAddr, aField, aLoad, aStore, aExtract, aBox, aint, rdVar, rdCells, Value.oneCell', splice, Int.reduceNeg, zvar1, chunks, depth, some_map, Nat.reduceBEq, cf_dyn, okU, Tryz.f39, rf39, StepT.c, neStep, hj, xj, hw j hj], rfl⟩) (fun s hs => by
      subst hs
      simp only [R0, RC, zipEnv, Nat.reduceLT, Nat.reduceAdd, Nat.reduceEqDiff, Nat.reduceLeDiff, reduceCtorEq, ↓reduceIte, ares, aresult, pr, Int.reduceEq, Int.reduceLT, Int.reduceLE, Nat.reduceSub, Nat.reduceMul, aFieldAddr, aField, aLoad, aStore, aExtract, aBox, aint, rdVar, rdCells, Value.oneCell', splice, Int.reduceNeg, zvar1, chunks, depth, some_map, Nat.reduceBEq, cf_dyn, okU, Tryz.f39, rf39])
    subst hs
    rw [e]
    exact ⟨_, by simp only [R0, RC, zipEnv, Nat.reduceLT, Nat.reduceAdd, Nat.reduceEqDiff, Nat.reduceLeDiff, reduceCtorEq, ↓reduceIte, ares, aresult, pr, Int.reduceEq, Int.reduceLT, Int.reduceLE, Nat.reduceSub, Nat.reduceMul, aFieldAddr, aField, aLoad, aStore, aExtract, aBox, aint, rdVar, rdCells, Value.oneCell', splice, Int.reduceNeg, zvar1, chunks, depth, some_map, Nat.reduceBEq, cf_dyn, okU, Tryz.f39, rf39]; rfl⟩
  obtain ⟨H', e⟩ := key
  exact val_of e rfl rfl
set_option maxHeartbeats 1000000 in
theorem sameRule_run (r : RuleT) (ha : r.head.args.length ≤ 1000) (hb : r.body.length ≤ 1000) (hl : ∀ l ∈ r.body, l.a.args.length ≤ 1000 ∧ l.path.length ≤ 1000) (k : Nat) (hk : 1006 ≤ k) : val Tryz.prog cf k 20 [.agg r.c, .agg r.c] = some (.sc (.bool true)) := by
  obtain ⟨k, rfl⟩ : ∃ j, k = j + 1 := ⟨k - 1, by omega⟩
  have hw := wraps (n := r.body.length) (by omega)
  have hsa := sameAtom_run r.head ha k (by omega)
  simp only [AtomT.c] at hsa
  have key : ∃ H', arun Tryz.prog cf (k + 1) 20 [.agg r.c, .agg r.c] [] = some (.sc (.bool true), H') := by
    rw [arun_body rfl rfl Tryz.func20 rfl (N := 96) rfl]
    simp only [R0, RC, zipEnv, Nat.reduceLT, Nat.reduceAdd, Nat.reduceEqDiff, Nat.reduceLeDiff, reduceCtorEq, ↓reduceIte, ares, aresult, pr, Int.reduceEq, Int.reduceLT, Int.reduceLE, Nat.reduceSub, Nat.reduceMul, aFieldAddr, aField, aLoad, aStore, aExtract, aBox, aint, rdVar, rdCells, Value.oneCell', splice, Int.reduceNeg, zvar1, chunks, depth, some_map, Nat.reduceBEq, cf_dyn, okU, Tryz.f20, rf20, RuleT.c, hsa]
    generalize hA : aloop _ _ _ _ _ _ _ _ _ _ _ = A
    obtain ⟨s, ⟨H, hs⟩, e⟩ := aloop_inv2 hA [2, 3, 32, 33] (fun j s => ∃ H : List Blk, s = ⟨[(2, .ro [.sc (.string r.head.p), mkL 4 (r.head.args.map TermT.c), .sc (.int .i64 r.fold), mkL 17 (r.body.map LitT.c)]), (3, .ro [.sc (.string r.head.p), mkL 4 (r.head.args.map TermT.c), .sc (.int .i64 r.fold), mkL 17 (r.body.map LitT.c)]), (32, .sc (.int .i64 r.body.length)), (33, .sc (.int .i64 (j : Nat)))], H⟩) r.body.length (by omega) rfl ⟨[], by simp only [R0, RC, zipEnv, Nat.reduceLT, Nat.reduceAdd, Nat.reduceEqDiff, Nat.reduceLeDiff, reduceCtorEq, ↓reduceIte, ares, aresult, pr, Int.reduceEq, Int.reduceLT, Int.reduceLE, Nat.reduceSub, Nat.reduceMul, aFieldAddr, aField, aLoad, aStore, aExtract, aBox, aint, rdVar, rdCells, Value.oneCell', splice, Int.reduceNeg, zvar1, chunks, depth, some_map, Nat.reduceBEq, cf_dyn, okU, Tryz.f20, rf20, RuleT.c]; try rfl⟩ (fun j hj s ⟨H, hs⟩ => by
      subst hs
      obtain ⟨x, hx⟩ : ∃ x, x = r.body[j] := ⟨_, rfl⟩
      have xj : r.body[j]? = some x := by rw [hx]; exact List.getElem?_eq_getElem hj
      obtain ⟨q1, q2⟩ := hl x (List.mem_of_getElem? xj)
      have h1 := sameAtom_run x.a q1 k (by omega)
      have h2 := samePath_run x.path q2 k (by omega)
      simp only [AtomT.c] at h1
      have l1 : ∀ b1 : Blk, (H ++ [b1]).length = H.length + 1 := fun b1 => by simp
      have g0 : ∀ b1 b2 : Blk, (H ++ [b1] ++ [b2])[H.length]? = some b1 := fun b1 b2 => by
        rw [List.getElem?_append_left (by simp), List.getElem?_concat_length]
      have g1 : ∀ b1 b2 : Blk, (H ++ [b1] ++ [b2])[H.length + 1]? = some b2 := fun b1 b2 => by
        rw [← l1 b1, List.getElem?_concat_length]
      have s0 : ∀ b1 b2 y : Blk, (H ++ [b1] ++ [b2]).set H.length y = H ++ [y] ++ [b2] := fun b1 b2 y => by
        rw [List.set_append_left _ _ (by simp), set_last]
      have s1 : ∀ b1 b2 y : Blk, (H ++ [b1] ++ [b2]).set (H.length + 1) y = H ++ [b1] ++ [y] := fun b1 b2 y => by
        rw [← l1 b1, set_last]
      refine ⟨_, by
        simp only [R0, RC, zipEnv, Nat.reduceLT, Nat.reduceAdd, Nat.reduceEqDiff, Nat.reduceLeDiff, reduceCtorEq, ↓reduceIte, ares, aresult, pr, Int.reduceEq, Int.reduceLT, Int.reduceLE, Nat.reduceSub, Nat.reduceMul, aFieldAddr, aField, aLoad, aStore, aExtract, aBox, aint, rdVar, rdCells, Value.oneCell', splice, Int.reduceNeg, zvar1, chunks, depth, some_map, Nat.reduceBEq, cf_dyn, okU, Tryz.f20, rf20, R1, LitT.c, neTerm, hj, xj, h1, h2, hw j hj, l1, g0, g1, s0, s1]
        rw [if_pos]
        case hc => kernel_rfl
        simp only [R0, RC, zipEnv, Nat.reduceLT, Nat.reduceAdd, Nat.reduceEqDiff, Nat.reduceLeDiff, reduceCtorEq, ↓reduceIte, ares, aresult, pr, Int.reduceEq, Int.reduceLT, Int.reduceLE, Nat.reduceSub, Nat.reduceMul, aFieldAddr, aField, aLoad, aStore, aExtract, aBox, aint, rdVar, rdCells, Value.oneCell', splice, Int.reduceNeg, zvar1, chunks, depth, some_map, Nat.reduceBEq, cf_dyn, okU, Tryz.f20, rf20, LitT.c, neTerm, hj, xj, h1, h2, hw j hj, l1, g0, g1, s0, s1]
        rfl, _, rfl⟩) (fun s ⟨H, hs⟩ => by
      subst hs
      simp only [R0, RC, zipEnv, Nat.reduceLT, Nat.reduceAdd, Nat.reduceEqDiff, Nat.reduceLeDiff, reduceCtorEq, ↓reduceIte, ares, aresult, pr, Int.reduceEq, Int.reduceLT, Int.reduceLE, Nat.reduceSub, Nat.reduceMul, aFieldAddr, aField, aLoad, aStore, aExtract, aBox, aint, rdVar, rdCells, Value.oneCell', splice, Int.reduceNeg, zvar1, chunks, depth, some_map, Nat.reduceBEq, cf_dyn, okU, Tryz.f20, rf20])
    subst hs
    rw [e]
    exact ⟨_, by simp only [R0, RC, zipEnv, Nat.reduceLT, Nat.reduceAdd, Nat.reduceEqDiff, Nat.reduceLeDiff, reduceCtorEq, ↓reduceIte, ares, aresult, pr, Int.reduceEq, Int.reduceLT, Int.reduceLE, Nat.reduceSub, Nat.reduceMul, aFieldAddr, aField, aLoad, aStore, aExtract, aBox, aint, rdVar, rdCells, Value.oneCell', splice, Int.reduceNeg, zvar1, chunks, depth, some_map, Nat.reduceBEq, cf_dyn, okU, Tryz.f20, rf20]; rfl⟩
  obtain ⟨H', e⟩ := key
  exact val_of e rfl rfl
end Go.Proofs.YtpgipdajinkdgaaGreatA
