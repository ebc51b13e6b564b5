/- A part of the proof of StrataFewer: functions of the program, run by the evaluator. -/

/- StrataFewer, run. -/
import Derived.Test.YtigfnhbbfbnicaaN38
namespace Go.Proofs.YtigfnhbbfbnicaaA
open Go Go.RowKit
set_option linter.all false
set_option linter.unusedSectionVars false
set_option linter.constructorNameAsVariable false
set_option linter.unusedVariables false
set_option linter.unusedSimpArgs false
theorem rule_row {rs : List RuleT} : ∀ q ∈ rs.map RuleT.c, q.length = 4 ∧ q.all one = true ∧ ∀ x ∈ q, Stays x := fun q hq => by
  obtain ⟨r, _, rfl⟩ := List.mem_map.1 hq
  refine ⟨rfl, by simp only [RuleT.c, List.all_cons, List.all_nil, one_mkL, Bool.and_true, Bool.true_and]; rfl, fun x hx => ?_⟩
  simp only [RuleT.c, List.mem_cons, List.not_mem_nil, or_false] at hx
  rcases hx with rfl | rfl | rfl | rfl
  · exact stays_str
  · exact stays_mkL
  · exact stays_int
  · exact stays_mkL
set_option maxHeartbeats 4000000 in
theorem strataFewer_law (p : ProgT) (n : Int) (hn : 0 ≤ n ∧ n ≤ 255) (k : Nat) (hk : 1999999 ≤ k) (haw : val Try.prog cf k 6 [] = some (.sc (.bool true))) : ∃ H, arun Try.prog cf (k + 1) 3 [.agg p.c, .sc (.int .u8 n)] [] = some (.sc (.bool true), H) := by
  obtain ⟨fw, hfew, hfw⟩ := few13_run p k (by omega)
  simp only [ProgT.c] at hfew
  rw [arun_body rfl rfl Try.func3 rfl (N := 79) rfl]
  cases fw with
  | false => exact ⟨_, by simp only [R0, RC, zipEnv, Nat.reduceLT, Nat.reduceAdd, Nat.reduceEqDiff, Nat.reduceLeDiff, reduceCtorEq, ↓reduceIte, ares, aresult, pr, Int.reduceEq, Int.reduceLT, Int.reduceLE, Nat.reduceSub, Nat.reduceMul, aFieldAddr, aField, aLoad, aStore, aExtract, aBox, aint, rdVar, rdCells, Value.oneCell', splice, Int.reduceNeg, zvar1, chunks, depth, some_map, Nat.reduceBEq, cf_dyn, okU, Try.f3, rf3, ProgT.c, haw, hfew]; rfl⟩
  | true =>
  have F := hfw rfl
  by_cases h0 : p.rules.length = 0
  · exact ⟨_, by simp only [R0, RC, zipEnv, Nat.reduceLT, Nat.reduceAdd, Nat.reduceEqDiff, Nat.reduceLeDiff, reduceCtorEq, ↓reduceIte, ares, aresult, pr, Int.reduceEq, Int.reduceLT, Int.reduceLE, Nat.reduceSub, Nat.reduceMul, aFieldAddr, aField, aLoad, aStore, aExtract, aBox, aint, rdVar, rdCells, Value.oneCell', splice, Int.reduceNeg, zvar1, chunks, depth, some_map, Nat.reduceBEq, cf_dyn, okU, Try.f3, rf3, ProgT.c, haw, hfew, h0]; rfl⟩
  have h00 : ¬ ((p.rules.length : Int) = 0) := by omega
  have hw1 : IntKind.i64.wrap n = n := by
    have := wrap_nat (a := n.toNat) (by omega)
    rwa [Int.toNat_of_nonneg hn.1] at this
  have hrem := fun (H : List Blk) pp qq => aBin_remI (P := Try.prog) (H := H) (t := 3) (p := pp) (q := qq) (k := .i64) (m := n) (n := (p.rules.length : Int)) h00
  obtain ⟨j, hj, hjl⟩ : ∃ j : Nat, n.tmod (p.rules.length : Int) = (j : Int) ∧ j < p.rules.length := by
    refine ⟨(n.tmod (p.rules.length : Int)).toNat, ?_, ?_⟩
    · rw [Int.toNat_of_nonneg (Int.tmod_nonneg _ hn.1)]
    · have := Int.tmod_lt_of_pos n (show (0 : Int) < (p.rules.length : Int) by omega)
      omega
  rw [hj] at hrem
  have hw2 : IntKind.i64.wrap ((j : Int) + 1) = ((j + 1 : Nat) : Int) := wrap_succ (by have := F.rules; omega)
  have hjle : j ≤ p.rules.length := by omega
  have hj1le : j + 1 ≤ p.rules.length := by omega
  have htk : (p.rules.map RuleT.c).take p.rules.length = p.rules.map RuleT.c := List.take_of_length_le (by simp)
  obtain ⟨L1, hL1⟩ : ∃ L1, L1 = (p.rules.map RuleT.c).take j := ⟨_, rfl⟩
  obtain ⟨L2, hL2⟩ : ∃ L2, L2 = (p.rules.map RuleT.c).drop (j + 1) := ⟨_, rfl⟩
  have hA1 : ∀ q ∈ L1, q.length = 4 ∧ q.all one = true ∧ ∀ x ∈ q, Stays x := fun q hq => by
    rw [hL1] at hq
    exact rule_row q (List.mem_of_mem_take hq)
  have hA2 : ∀ q ∈ L2, q.length = 4 ∧ q.all one = true ∧ ∀ x ∈ q, Stays x := fun q hq => by
    rw [hL2] at hq
    exact rule_row q (List.mem_of_mem_drop hq)
  have hn1 : L1.length ≤ 10 := by rw [hL1, List.length_take, List.length_map]; have := F.rules; omega
  have hn2 : L2.length ≤ 10 := by rw [hL2, List.length_drop, List.length_map]; have := F.rules; omega
  have hBd : ∀ r ∈ p.rules, r.body.length ≤ 1000 ∧ ∀ l ∈ r.body, l.path.length ≤ 900 := fun r hr => ⟨by have := F.body r hr; omega, fun l hl => by have := F.path r hr l hl; omega⟩
  have hAll : (allN p).length ≤ 1000 := by
    have := allN_len p 10 8 F
    omega
  have hsub := lessP_sub p j
  have hqr : (lessP p j).rules.length ≤ 10 := by
    have := F.rules
    unfold lessP
    rw [List.length_append, List.length_take, List.length_drop]
    omega
  have hBq : ∀ r ∈ (lessP p j).rules, r.body.length ≤ 1000 ∧ ∀ l ∈ r.body, l.path.length ≤ 900 := fun r hr => hBd r (hsub r hr)
  have hAllq : (allN (lessP p j)).length ≤ 1000 := by
    have h1 : (allN (lessP p j)).length ≤ (allN p).length := by
      unfold allN lessP
      conv => rhs; rw [← List.take_append_drop j p.rules, List.drop_eq_getElem_cons hjl]
      simp only [List.length_cons, List.flatMap_append, List.flatMap_cons, List.length_append]
      omega
    omega
  obtain ⟨rp, hrp, hp⟩ := strata_run p (by have := F.rules; omega) hBd hAll k (by omega)
  obtain ⟨rq, hrq, hq⟩ := strata_run (lessP p j) (by omega) hBq hAllq k (by omega)
  have np := names_run p (by have := F.rules; omega) hBd (by omega) k (by omega)
  have nq := names_run (lessP p j) (by omega) hBq (by omega) k (by omega)
  rw [show Ord.sorted (allN p) = namesT p from rfl] at np
  rw [show Ord.sorted (allN (lessP p j)) = namesT (lessP p j) from rfl] at nq
  have hle := names_le (q := lessP p j) (p := p) rfl hsub
  have hse := strE_sub (q := lessP p j) (p := p) rfl hsub
  have hcq : (lessP p j).c = [mkL 4 (L1 ++ L2), .sc (.string p.query.p), mkL 4 (p.query.args.map TermT.c)] := by
    rw [hL1, hL2]
    unfold ProgT.c lessP
    simp only [List.map_append, List.map_take, List.map_drop]
  rw [hcq] at hq nq
  simp only [ProgT.c] at hp np
  generalize strE p = ep at *
  generalize strE (lessP p j) = eq at *
  generalize namesT p = Np at *
  generalize namesT (lessP p j) = Nq at *
  clear hcq hAllq hBq hqr hsub hAll hBd
  have l1 : ((rq.length : Int) ≤ (Nq.length : Int)) = True := by simp; omega
  have l2 : ((Nq.length : Int) ≤ (Np.length : Int)) = True := by simp; omega
  by_cases e1 : L1 = [] <;> by_cases e2 : L2 = []
  · have q1 : aappend Try.prog [⟨27, 3, 0, false, [.sc (.slice none 0 0), .sc (.string .empty), .sc (.slice none 0 0)], .cells⟩, ⟨43, 4, 0, true, [], .cells⟩] 22 .z (mkL 4 L1) = some (.val .z) := by rw [e1]; exact app_z0 ro22
    have q2 : aappend Try.prog [⟨27, 3, 0, false, [.sc (.slice none 0 0), .sc (.string .empty), .sc (.slice none 0 0)], .cells⟩, ⟨43, 4, 0, true, [], .cells⟩] 22 .z (mkL 4 L2) = some (.val .z) := by rw [e2]; exact app_z0 ro22
    have q3 : Go.Proofs.YtigfnhbbfbnicaaA.rb ([⟨27, 3, 0, false, [.z, .sc (.string p.query.p), mkL 4 (p.query.args.map TermT.c)], .cells⟩, ⟨43, 4, 0, true, [], .cells⟩]) 39 .z = some (mkL 4 (L1 ++ L2)) := by
      rw [e1, e2]
      rfl
    skip
    simp only [R0, RC, zipEnv, Nat.reduceLT, Nat.reduceAdd, Nat.reduceEqDiff, Nat.reduceLeDiff, reduceCtorEq, ↓reduceIte, ares, aresult, pr, Int.reduceEq, Int.reduceLT, Int.reduceLE, Nat.reduceSub, Nat.reduceMul, aFieldAddr, aField, aLoad, aStore, aExtract, aBox, aint, rdVar, rdCells, Value.oneCell', splice, Int.reduceNeg, zvar1, chunks, depth, some_map, Nat.reduceBEq, cf_dyn, okU, Try.f3, rf3, R1, ProgT.c, haw, hfew, h00, h0, hw1, hrem, hw2, hjle, hj1le, htk, List.drop_zero, ← hL1, ← hL2, q1, q2]
    rw [if_pos]
    case hc => kernel_rfl
    by_cases hep : ep = 0
    · have heq := hse hep
      subst hep heq
      exact ⟨_, by simp only [R0, RC, zipEnv, Nat.reduceLT, Nat.reduceAdd, Nat.reduceEqDiff, Nat.reduceLeDiff, reduceCtorEq, ↓reduceIte, ares, aresult, pr, Int.reduceEq, Int.reduceLT, Int.reduceLE, Nat.reduceSub, Nat.reduceMul, aFieldAddr, aField, aLoad, aStore, aExtract, aBox, aint, rdVar, rdCells, Value.oneCell', splice, Int.reduceNeg, zvar1, chunks, depth, some_map, Nat.reduceBEq, cf_dyn, okU, Try.f3, rf3, q3, hp, hq, np, nq, l1, l2]; rfl⟩
    · exact ⟨_, by simp only [R0, RC, zipEnv, Nat.reduceLT, Nat.reduceAdd, Nat.reduceEqDiff, Nat.reduceLeDiff, reduceCtorEq, ↓reduceIte, ares, aresult, pr, Int.reduceEq, Int.reduceLT, Int.reduceLE, Nat.reduceSub, Nat.reduceMul, aFieldAddr, aField, aLoad, aStore, aExtract, aBox, aint, rdVar, rdCells, Value.oneCell', splice, Int.reduceNeg, zvar1, chunks, depth, some_map, Nat.reduceBEq, cf_dyn, okU, Try.f3, rf3, q3, hp, hq, np, nq, l1, l2, hep]; rfl⟩
  · have q1 : aappend Try.prog [⟨27, 3, 0, false, [.sc (.slice none 0 0), .sc (.string .empty), .sc (.slice none 0 0)], .cells⟩, ⟨43, 4, 0, true, [], .cells⟩] 22 .z (mkL 4 L1) = some (.val .z) := by rw [e1]; exact app_z0 ro22
    have q2 : aappend Try.prog [⟨27, 3, 0, false, [.sc (.slice none 0 0), .sc (.string .empty), .sc (.slice none 0 0)], .cells⟩, ⟨43, 4, 0, true, [], .cells⟩] 22 .z (mkL 4 L2) = some (.new (.own 2 0 L2.length 4 0) ⟨43, 4, 0, true, L2.flatten, .cells⟩) := app_z (H := [⟨27, 3, 0, false, [.sc (.slice none 0 0), .sc (.string .empty), .sc (.slice none 0 0)], .cells⟩, ⟨43, 4, 0, true, [], .cells⟩]) ro22 e2 (fun q hq => (hA2 q hq).2.1) (by omega) (by unfold maxLen; omega)
    have q3 : Go.Proofs.YtigfnhbbfbnicaaA.rb ([⟨27, 3, 0, false, [(AV.own 2 0 L2.length 4 0), .sc (.string p.query.p), mkL 4 (p.query.args.map TermT.c)], .cells⟩, ⟨43, 4, 0, true, [], .cells⟩, ⟨43, 4, 0, true, L2.flatten, .cells⟩]) 39 (AV.own 2 0 L2.length 4 0) = some (mkL 4 (L1 ++ L2)) := by
      rw [e1]
      exact rb_own (k := 37) (b := 2) rfl (fun q hq => (hA2 q hq).1) (fun q hq => (hA2 q hq).2.2)
    skip
    simp only [R0, RC, zipEnv, Nat.reduceLT, Nat.reduceAdd, Nat.reduceEqDiff, Nat.reduceLeDiff, reduceCtorEq, ↓reduceIte, ares, aresult, pr, Int.reduceEq, Int.reduceLT, Int.reduceLE, Nat.reduceSub, Nat.reduceMul, aFieldAddr, aField, aLoad, aStore, aExtract, aBox, aint, rdVar, rdCells, Value.oneCell', splice, Int.reduceNeg, zvar1, chunks, depth, some_map, Nat.reduceBEq, cf_dyn, okU, Try.f3, rf3, R1, ProgT.c, haw, hfew, h00, h0, hw1, hrem, hw2, hjle, hj1le, htk, List.drop_zero, ← hL1, ← hL2, q1, q2]
    rw [if_pos]
    case hc => kernel_rfl
    by_cases hep : ep = 0
    · have heq := hse hep
      subst hep heq
      exact ⟨_, by simp only [R0, RC, zipEnv, Nat.reduceLT, Nat.reduceAdd, Nat.reduceEqDiff, Nat.reduceLeDiff, reduceCtorEq, ↓reduceIte, ares, aresult, pr, Int.reduceEq, Int.reduceLT, Int.reduceLE, Nat.reduceSub, Nat.reduceMul, aFieldAddr, aField, aLoad, aStore, aExtract, aBox, aint, rdVar, rdCells, Value.oneCell', splice, Int.reduceNeg, zvar1, chunks, depth, some_map, Nat.reduceBEq, cf_dyn, okU, Try.f3, rf3, q3, hp, hq, np, nq, l1, l2]; rfl⟩
    · exact ⟨_, by simp only [R0, RC, zipEnv, Nat.reduceLT, Nat.reduceAdd, Nat.reduceEqDiff, Nat.reduceLeDiff, reduceCtorEq, ↓reduceIte, ares, aresult, pr, Int.reduceEq, Int.reduceLT, Int.reduceLE, Nat.reduceSub, Nat.reduceMul, aFieldAddr, aField, aLoad, aStore, aExtract, aBox, aint, rdVar, rdCells, Value.oneCell', splice, Int.reduceNeg, zvar1, chunks, depth, some_map, Nat.reduceBEq, cf_dyn, okU, Try.f3, rf3, q3, hp, hq, np, nq, l1, l2, hep]; rfl⟩
  · have q1 : aappend Try.prog [⟨27, 3, 0, false, [.sc (.slice none 0 0), .sc (.string .empty), .sc (.slice none 0 0)], .cells⟩, ⟨43, 4, 0, true, [], .cells⟩] 22 .z (mkL 4 L1) = some (.new (.own 2 0 L1.length 4 0) ⟨43, 4, 0, true, L1.flatten, .cells⟩) := app_z (H := [⟨27, 3, 0, false, [.sc (.slice none 0 0), .sc (.string .empty), .sc (.slice none 0 0)], .cells⟩, ⟨43, 4, 0, true, [], .cells⟩]) ro22 e1 (fun q hq => (hA1 q hq).2.1) (by omega) (by unfold maxLen; omega)
    have q2 : aappend Try.prog [⟨27, 3, 0, false, [.sc (.slice none 0 0), .sc (.string .empty), .sc (.slice none 0 0)], .cells⟩, ⟨43, 4, 0, true, [], .cells⟩, ⟨43, 4, 0, true, L1.flatten, .cells⟩] 22 (.own 2 0 L1.length 4 0) (mkL 4 L2) = some (.val (.own 2 0 L1.length 4 0)) := by rw [e2]; exact app_o0 (H := [⟨27, 3, 0, false, [.sc (.slice none 0 0), .sc (.string .empty), .sc (.slice none 0 0)], .cells⟩, ⟨43, 4, 0, true, [], .cells⟩, ⟨43, 4, 0, true, L1.flatten, .cells⟩]) ro22 rfl (fun q hq => (hA1 q hq).1) (by omega) (by unfold maxLen; omega)
    have q3 : Go.Proofs.YtigfnhbbfbnicaaA.rb ([⟨27, 3, 0, false, [(AV.own 2 0 L1.length 4 0), .sc (.string p.query.p), mkL 4 (p.query.args.map TermT.c)], .cells⟩, ⟨43, 4, 0, true, [], .cells⟩, ⟨43, 4, 0, true, L1.flatten, .cells⟩]) 39 (AV.own 2 0 L1.length 4 0) = some (mkL 4 (L1 ++ L2)) := by
      rw [e2, List.append_nil]
      exact rb_own (k := 37) (b := 2) rfl (fun q hq => (hA1 q hq).1) (fun q hq => (hA1 q hq).2.2)
    skip
    simp only [R0, RC, zipEnv, Nat.reduceLT, Nat.reduceAdd, Nat.reduceEqDiff, Nat.reduceLeDiff, reduceCtorEq, ↓reduceIte, ares, aresult, pr, Int.reduceEq, Int.reduceLT, Int.reduceLE, Nat.reduceSub, Nat.reduceMul, aFieldAddr, aField, aLoad, aStore, aExtract, aBox, aint, rdVar, rdCells, Value.oneCell', splice, Int.reduceNeg, zvar1, chunks, depth, some_map, Nat.reduceBEq, cf_dyn, okU, Try.f3, rf3, R1, ProgT.c, haw, hfew, h00, h0, hw1, hrem, hw2, hjle, hj1le, htk, List.drop_zero, ← hL1, ← hL2, q1, q2]
    rw [if_pos]
    case hc => kernel_rfl
    by_cases hep : ep = 0
    · have heq := hse hep
      subst hep heq
      exact ⟨_, by simp only [R0, RC, zipEnv, Nat.reduceLT, Nat.reduceAdd, Nat.reduceEqDiff, Nat.reduceLeDiff, reduceCtorEq, ↓reduceIte, ares, aresult, pr, Int.reduceEq, Int.reduceLT, Int.reduceLE, Nat.reduceSub, Nat.reduceMul, aFieldAddr, aField, aLoad, aStore, aExtract, aBox, aint, rdVar, rdCells, Value.oneCell', splice, Int.reduceNeg, zvar1, chunks, depth, some_map, Nat.reduceBEq, cf_dyn, okU, Try.f3, rf3, q3, hp, hq, np, nq, l1, l2]; rfl⟩
    · exact ⟨_, by simp only [R0, RC, zipEnv, Nat.reduceLT, Nat.reduceAdd, Nat.reduceEqDiff, Nat.reduceLeDiff, reduceCtorEq, ↓reduceIte, ares, aresult, pr, Int.reduceEq, Int.reduceLT, Int.reduceLE, Nat.reduceSub, Nat.reduceMul, aFieldAddr, aField, aLoad, aStore, aExtract, aBox, aint, rdVar, rdCells, Value.oneCell', splice, Int.reduceNeg, zvar1, chunks, depth, some_map, Nat.reduceBEq, cf_dyn, okU, Try.f3, rf3, q3, hp, hq, np, nq, l1, l2, hep]; rfl⟩
  · have q1 : aappend Try.prog [⟨27, 3, 0, false, [.sc (.slice none 0 0), .sc (.string .empty), .sc (.slice none 0 0)], .cells⟩, ⟨43, 4, 0, true, [], .cells⟩] 22 .z (mkL 4 L1) = some (.new (.own 2 0 L1.length 4 0) ⟨43, 4, 0, true, L1.flatten, .cells⟩) := app_z (H := [⟨27, 3, 0, false, [.sc (.slice none 0 0), .sc (.string .empty), .sc (.slice none 0 0)], .cells⟩, ⟨43, 4, 0, true, [], .cells⟩]) ro22 e1 (fun q hq => (hA1 q hq).2.1) (by omega) (by unfold maxLen; omega)
    have q2 : aappend Try.prog [⟨27, 3, 0, false, [.sc (.slice none 0 0), .sc (.string .empty), .sc (.slice none 0 0)], .cells⟩, ⟨43, 4, 0, true, [], .cells⟩, ⟨43, 4, 0, true, L1.flatten, .cells⟩] 22 (.own 2 0 L1.length 4 0) (mkL 4 L2) = some (.upd (.own 2 0 (L1.length + L2.length) 4 1) 2 ⟨43, 4, 1, true, L1.flatten ++ L2.flatten, .cells⟩) := app_o (H := [⟨27, 3, 0, false, [.sc (.slice none 0 0), .sc (.string .empty), .sc (.slice none 0 0)], .cells⟩, ⟨43, 4, 0, true, [], .cells⟩, ⟨43, 4, 0, true, L1.flatten, .cells⟩]) ro22 rfl (fun q hq => (hA1 q hq).1) e2 (fun q hq => (hA2 q hq).2.1) (by omega) (by unfold maxLen; omega)
    have q3 : Go.Proofs.YtigfnhbbfbnicaaA.rb ([⟨27, 3, 0, false, [(AV.own 2 0 (L1.length + L2.length) 4 1), .sc (.string p.query.p), mkL 4 (p.query.args.map TermT.c)], .cells⟩, ⟨43, 4, 0, true, [], .cells⟩, ⟨43, 4, 1, true, L1.flatten ++ L2.flatten, .cells⟩]) 39 (AV.own 2 0 (L1.length + L2.length) 4 1) = some (mkL 4 (L1 ++ L2)) := by
      rw [← List.length_append, ← List.flatten_append]
      exact rb_own (k := 37) (b := 2) (rows := L1 ++ L2) rfl (fun q hq => (List.mem_append.1 hq).elim (fun h => (hA1 q h).1) (fun h => (hA2 q h).1)) (fun q hq => (List.mem_append.1 hq).elim (fun h => (hA1 q h).2.2) (fun h => (hA2 q h).2.2))
    skip
    simp only [R0, RC, zipEnv, Nat.reduceLT, Nat.reduceAdd, Nat.reduceEqDiff, Nat.reduceLeDiff, reduceCtorEq, ↓reduceIte, ares, aresult, pr, Int.reduceEq, Int.reduceLT, Int.reduceLE, Nat.reduceSub, Nat.reduceMul, aFieldAddr, aField, aLoad, aStore, aExtract, aBox, aint, rdVar, rdCells, Value.oneCell', splice, Int.reduceNeg, zvar1, chunks, depth, some_map, Nat.reduceBEq, cf_dyn, okU, Try.f3, rf3, R1, ProgT.c, haw, hfew, h00, h0, hw1, hrem, hw2, hjle, hj1le, htk, List.drop_zero, ← hL1, ← hL2, q1, q2]
    rw [if_pos]
    case hc => kernel_rfl
    by_cases hep : ep = 0
    · have heq := hse hep
      subst hep heq
      exact ⟨_, by simp only [R0, RC, zipEnv, Nat.reduceLT, Nat.reduceAdd, Nat.reduceEqDiff, Nat.reduceLeDiff, reduceCtorEq, ↓reduceIte, ares, aresult, pr, Int.reduceEq, Int.reduceLT, Int.reduceLE, Nat.reduceSub, Nat.reduceMul, aFieldAddr, aField, aLoad, aStore, aExtract, aBox, aint, rdVar, rdCells, Value.oneCell', splice, Int.reduceNeg, zvar1, chunks, depth, some_map, Nat.reduceBEq, cf_dyn, okU, Try.f3, rf3, q3, hp, hq, np, nq, l1, l2]; rfl⟩
    · exact ⟨_, by simp only [R0, RC, zipEnv, Nat.reduceLT, Nat.reduceAdd, Nat.reduceEqDiff, Nat.reduceLeDiff, reduceCtorEq, ↓reduceIte, ares, aresult, pr, Int.reduceEq, Int.reduceLT, Int.reduceLE, Nat.reduceSub, Nat.reduceMul, aFieldAddr, aField, aLoad, aStore, aExtract, aBox, aint, rdVar, rdCells, Value.oneCell', splice, Int.reduceNeg, zvar1, chunks, depth, some_map, Nat.reduceBEq, cf_dyn, okU, Try.f3, rf3, q3, hp, hq, np, nq, l1, l2, hep]; rfl⟩
end Go.Proofs.YtigfnhbbfbnicaaA
