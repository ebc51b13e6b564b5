/- strata.Names. -/
import Derived.Test.YtigfnhbbfbnicaaN2
namespace Go.Proofs.YtigfnhbbfbnicaaA
open Go Go.RowKit
set_option linter.all false
set_option linter.unusedSectionVars false
set_option linter.constructorNameAsVariable false
set_option linter.unusedVariables false
set_option linter.unusedSimpArgs false
/-- The memory while names are gathered: the row, and the variable that holds it. -/
def NS (l : List ByteArray) : List Blk := [⟨9, 1, l.length - 1, true, (sRows l).flatten, .cells⟩, ⟨34, 1, 0, false, [.own 0 0 l.length 1 (l.length - 1)], .cells⟩]
theorem ns_app {l : List ByteArray} {s : ByteArray} (hne : l ≠ []) (hl : l.length ≤ 1000000) : aappend Try.prog (NS l) 34 (.own 0 0 l.length 1 (l.length - 1)) (mkL 1 [[.sc (.string s)]]) = some (.upd (.own 0 0 (l ++ [s]).length 1 ((l ++ [s]).length - 1)) 0 ⟨9, 1, (l ++ [s]).length - 1, true, (sRows (l ++ [s])).flatten, .cells⟩) := by
  have hp : 0 < l.length := by cases l with | nil => exact absurd rfl hne | cons a b => simp
  have h := app_o (P := Try.prog) (H := NS l) (b := 0) (ver := l.length - 1) (rows := sRows l) (more := [[.sc (.string s)]]) ro34 rfl sRows_row (by simp) (by simp [one]; rfl) (by simp; omega) (by simp [maxLen]; omega)
  have e1 : (sRows l).length = l.length := by simp
  have e2 : (l ++ [s]).length = l.length + 1 := by simp
  have e3 : l.length - 1 + 1 = l.length := by omega
  have e4 : (sRows (l ++ [s])).flatten = (sRows l).flatten ++ [[.sc (.string s)]].flatten := by simp [sRows, sC]
  rw [e1, e3] at h
  rw [e2, e4, Nat.add_sub_cancel]
  exact h
theorem clo_names (q : LitT) (s : ByteArray) (l : List ByteArray) (hne : l ≠ []) (hl : l.length ≤ 1000000) (k : Nat) : arun Try.prog cf (k + 1) 29 [.agg q.c, .sc (.string s), .ptr 1 0 0] (NS l) = some (.tup [], NS (l ++ [s])) := by
  have ha := ns_app (s := s) hne hl
  rw [arun_body rfl rfl Try.func29 rfl (N := 9) rfl]
  unfold NS at ha ⊢
  simp only [R0, zipEnv, Nat.reduceLT, Nat.reduceAdd, Nat.reduceEqDiff, Nat.reduceLeDiff, if_true, if_false, reduceCtorEq, ↓reduceIte, List.toList_toArray, Option.map_some, Option.bind_some, List.getElem?_toArray, List.getElem?_cons_zero, List.getElem?_cons_succ, List.size_toArray, Bool.not_true, Bool.not_false, decide_true, decide_false, BEq.rfl, Bool.true_eq_false, Bool.false_eq_true, beq_self_eq_true, List.map_cons, List.map_nil, eq_self, decide_eq_true_eq, Nat.lt_irrefl, Int.lt_irrefl, Int.ofNat_lt, ares, aresult, pr, Int.reduceEq, Int.reduceLT, Int.reduceLE, Nat.reduceSub, Nat.reduceMul, bne_self_eq_false, Bool.beq_eq_decide_eq, Bool.and_true, Bool.true_and, Bool.and_false, Bool.false_and, Bool.or_true, Bool.true_or, Bool.or_false, Bool.false_or, aFieldAddr, aField, aLoad, aStore, aExtract, aBox, aint, rdVar, rdCells, Value.oneCell', List.all_cons, List.all_nil, List.length_cons, List.length_nil, List.drop_zero, List.drop_succ_cons, List.take_succ_cons, List.take_zero, Nat.zero_add, Nat.add_zero, List.nil_append, List.cons_append, Int.natCast_nonneg, Int.toNat_natCast, Nat.zero_le, Nat.le_refl, Bool.and_self, Bool.or_self, splice, List.set_cons_zero, List.set_cons_succ, Option.map_none, List.getElem?_nil, gt_iff_lt, ge_iff_le, Nat.lt_add_one, Nat.zero_lt_succ, beq_iff_eq, Nat.mul_zero, Nat.zero_mul, Nat.mul_one, List.append_nil, not_true_eq_false, not_false_eq_true, ne_eq, Bool.not_eq_true, Bool.decide_and, Bool.decide_eq_true, Int.reduceNeg, zvar1, chunks, depth, some_map, List.length_map, List.getElem?_map, Nat.reduceBEq, Bool.not_eq_false, Nat.beq_eq, cf_dyn, okU, Try.f29, rf29, LitT.c, ha]
def ruleN (r : RuleT) : List ByteArray := r.head.p :: (eachL r.body).map (·.2)
def allN (p : ProgT) : List ByteArray := p.query.p :: p.rules.flatMap ruleN
theorem names_run (p : ProgT) (hR : p.rules.length ≤ 1000) (hB : ∀ r ∈ p.rules, r.body.length ≤ 1000 ∧ ∀ l ∈ r.body, l.path.length ≤ 900) (hN : (allN p).length ≤ 1000000) (k : Nat) (hk : 1020 ≤ k) :
    val Try.prog cf k 9 [.agg p.c] = some (mkL 1 (sRows (Ord.sorted (allN p)))) := by
  obtain ⟨k, rfl⟩ : ∃ j, k = j + 1 := ⟨k - 1, by omega⟩
  have key : ∀ (H0 : List Blk) (v0 : AV), OutAt 9 1 H0 v0 (sRows (allN p)) → (∀ v H', arun Try.prog cf k 30 [v0] H0 = some (v, H') → arun Try.prog cf (k + 1) 9 [.agg p.c] [] = some (v, H')) → val Try.prog cf (k + 1) 9 [.agg p.c] = some (mkL 1 (sRows (Ord.sorted (allN p)))) := by
    intro H0 v0 ho h
    obtain ⟨v, H', e, hh⟩ := sorted_run ho (by omega) k (by omega)
    exact val_head (h v H' e) hh sRows_row sRows_stay
  have hne : ∀ (m : List ByteArray), p.query.p :: m ≠ [] := fun m => by simp
  refine key (NS (allN p)) (.own 0 0 (allN p).length 1 ((allN p).length - 1)) (.inr ⟨by simp [allN], 0, _, by simp, rfl⟩) (fun v H' e => ?_)
  rw [arun_body rfl rfl Try.func9 rfl (N := 29) rfl]
  have hw := wraps (n := p.rules.length) (by omega)
  simp only [R0, zipEnv, Nat.reduceLT, Nat.reduceAdd, Nat.reduceEqDiff, Nat.reduceLeDiff, if_true, if_false, reduceCtorEq, ↓reduceIte, List.toList_toArray, Option.map_some, Option.bind_some, List.getElem?_toArray, List.getElem?_cons_zero, List.getElem?_cons_succ, List.size_toArray, Bool.not_true, Bool.not_false, decide_true, decide_false, BEq.rfl, Bool.true_eq_false, Bool.false_eq_true, beq_self_eq_true, List.map_cons, List.map_nil, eq_self, decide_eq_true_eq, Nat.lt_irrefl, Int.lt_irrefl, Int.ofNat_lt, ares, aresult, pr, Int.reduceEq, Int.reduceLT, Int.reduceLE, Nat.reduceSub, Nat.reduceMul, bne_self_eq_false, Bool.beq_eq_decide_eq, Bool.and_true, Bool.true_and, Bool.and_false, Bool.false_and, Bool.or_true, Bool.true_or, Bool.or_false, Bool.false_or, aFieldAddr, aField, aLoad, aStore, aExtract, aBox, aint, rdVar, rdCells, Value.oneCell', List.all_cons, List.all_nil, List.length_cons, List.length_nil, List.drop_zero, List.drop_succ_cons, List.take_succ_cons, List.take_zero, Nat.zero_add, Nat.add_zero, List.nil_append, List.cons_append, Int.natCast_nonneg, Int.toNat_natCast, Nat.zero_le, Nat.le_refl, Bool.and_self, Bool.or_self, splice, List.set_cons_zero, List.set_cons_succ, Option.map_none, List.getElem?_nil, gt_iff_lt, ge_iff_le, Nat.lt_add_one, Nat.zero_lt_succ, beq_iff_eq, Nat.mul_zero, Nat.zero_mul, Nat.mul_one, List.append_nil, not_true_eq_false, not_false_eq_true, ne_eq, Bool.not_eq_true, Bool.decide_and, Bool.decide_eq_true, Int.reduceNeg, zvar1, chunks, depth, some_map, List.length_map, List.getElem?_map, Nat.reduceBEq, Bool.not_eq_false, Nat.beq_eq, cf_dyn, okU, Try.f9, rf9, ProgT.c]
  generalize hA : aloop _ _ _ _ _ _ _ _ _ _ _ = A
  rcases aloop_list hA [3, 11, 12, 13] (fun j => ⟨[(3, .ptr 1 0 0), (11, mkL 4 (p.rules.map RuleT.c)), (12, .sc (.int .i64 p.rules.length)), (13, .sc (.int .i64 (j : Nat)))], NS (p.query.p :: (p.rules.take j).flatMap ruleN)⟩) p.rules (fun _ => false) (by omega) rfl rfl (fun j r hj hr hq => by
      have hm0 : (p.rules.take (j + 1)).flatMap ruleN = (p.rules.take j).flatMap ruleN ++ ruleN r := by
        obtain ⟨hj', rfl⟩ := List.getElem?_eq_some_iff.1 hr
        rw [List.take_succ_eq_append_getElem hj', List.flatMap_append]
        simp
      have hml : (p.query.p :: (p.rules.take (j + 1)).flatMap ruleN).length ≤ 1000000 := by
        refine Nat.le_trans ?_ hN
        unfold allN
        conv => rhs; rw [← List.take_append_drop (j + 1) p.rules, List.flatMap_append]
        simp only [List.length_cons, List.length_append]
        omega
      rw [hm0] at hml ⊢
      rw [← List.cons_append] at hml ⊢
      have hmne : p.query.p :: (p.rules.take j).flatMap ruleN ≠ [] := by simp
      generalize p.query.p :: (p.rules.take j).flatMap ruleN = m at hml hmne ⊢
      simp only [ruleN, List.length_append, List.length_cons, List.length_map] at hml
      have ha := ns_app (s := r.head.p) hmne (by omega)
      have hE := each_run (g := 29) (caps := [.ptr 1 0 0]) (S := fun i => NS (m ++ [r.head.p] ++ ((eachL r.body).take i).map (·.2))) r (hB r (List.mem_of_getElem? hr)).1 (hB r (List.mem_of_getElem? hr)).2 k (by omega) (fun i q strict hq => by
        have hi : i < (eachL r.body).length := by
          rcases Nat.lt_or_ge i (eachL r.body).length with h | h
          · exact h
          · rw [List.getElem?_eq_none h] at hq; cases hq
        have hc := clo_names q.1 q.2 (m ++ [r.head.p] ++ ((eachL r.body).take i).map (·.2)) (by simp) (by simp; omega) (k - 2)
        rw [show k - 2 + 1 = k - 1 by omega] at hc
        rw [cl29]
        refine hc.trans ?_
        obtain ⟨_, rfl⟩ := List.getElem?_eq_some_iff.1 hq
        rw [List.take_succ_eq_append_getElem hi, List.map_append]
        simp only [List.append_assoc, List.map_cons, List.map_nil])
      simp only [List.take_zero, List.map_nil, List.append_nil, List.take_length, RuleT.c] at hE
      unfold NS at ha hE ⊢
      simp only [ruleN, sC]
      simp only [R0, zipEnv, Nat.reduceLT, Nat.reduceAdd, Nat.reduceEqDiff, Nat.reduceLeDiff, if_true, if_false, reduceCtorEq, ↓reduceIte, List.toList_toArray, Option.map_some, Option.bind_some, List.getElem?_toArray, List.getElem?_cons_zero, List.getElem?_cons_succ, List.size_toArray, Bool.not_true, Bool.not_false, decide_true, decide_false, BEq.rfl, Bool.true_eq_false, Bool.false_eq_true, beq_self_eq_true, List.map_cons, List.map_nil, eq_self, decide_eq_true_eq, Nat.lt_irrefl, Int.lt_irrefl, Int.ofNat_lt, ares, aresult, pr, Int.reduceEq, Int.reduceLT, Int.reduceLE, Nat.reduceSub, Nat.reduceMul, bne_self_eq_false, Bool.beq_eq_decide_eq, Bool.and_true, Bool.true_and, Bool.and_false, Bool.false_and, Bool.or_true, Bool.true_or, Bool.or_false, Bool.false_or, aFieldAddr, aField, aLoad, aStore, aExtract, aBox, aint, rdVar, rdCells, Value.oneCell', List.all_cons, List.all_nil, List.length_cons, List.length_nil, List.drop_zero, List.drop_succ_cons, List.take_succ_cons, List.take_zero, Nat.zero_add, Nat.add_zero, List.nil_append, List.cons_append, Int.natCast_nonneg, Int.toNat_natCast, Nat.zero_le, Nat.le_refl, Bool.and_self, Bool.or_self, splice, List.set_cons_zero, List.set_cons_succ, Option.map_none, List.getElem?_nil, gt_iff_lt, ge_iff_le, Nat.lt_add_one, Nat.zero_lt_succ, beq_iff_eq, Nat.mul_zero, Nat.zero_mul, Nat.mul_one, List.append_nil, not_true_eq_false, not_false_eq_true, ne_eq, Bool.not_eq_true, Bool.decide_and, Bool.decide_eq_true, Int.reduceNeg, zvar1, chunks, depth, some_map, List.length_map, List.getElem?_map, Nat.reduceBEq, Bool.not_eq_false, Nat.beq_eq, cf_dyn, okU, Try.f9, rf9, RuleT.c, hj, hr, hw j hj, ha, hE, List.append_assoc, List.singleton_append]) (fun j r hj hr hq => by cases hq) (by
      unfold NS
      simp only [R0, zipEnv, Nat.reduceLT, Nat.reduceAdd, Nat.reduceEqDiff, Nat.reduceLeDiff, if_true, if_false, reduceCtorEq, ↓reduceIte, List.toList_toArray, Option.map_some, Option.bind_some, List.getElem?_toArray, List.getElem?_cons_zero, List.getElem?_cons_succ, List.size_toArray, Bool.not_true, Bool.not_false, decide_true, decide_false, BEq.rfl, Bool.true_eq_false, Bool.false_eq_true, beq_self_eq_true, List.map_cons, List.map_nil, eq_self, decide_eq_true_eq, Nat.lt_irrefl, Int.lt_irrefl, Int.ofNat_lt, ares, aresult, pr, Int.reduceEq, Int.reduceLT, Int.reduceLE, Nat.reduceSub, Nat.reduceMul, bne_self_eq_false, Bool.beq_eq_decide_eq, Bool.and_true, Bool.true_and, Bool.and_false, Bool.false_and, Bool.or_true, Bool.true_or, Bool.or_false, Bool.false_or, aFieldAddr, aField, aLoad, aStore, aExtract, aBox, aint, rdVar, rdCells, Value.oneCell', List.all_cons, List.all_nil, List.length_cons, List.length_nil, List.drop_zero, List.drop_succ_cons, List.take_succ_cons, List.take_zero, Nat.zero_add, Nat.add_zero, List.nil_append, List.cons_append, Int.natCast_nonneg, Int.toNat_natCast, Nat.zero_le, Nat.le_refl, Bool.and_self, Bool.or_self, splice, List.set_cons_zero, List.set_cons_succ, Option.map_none, List.getElem?_nil, gt_iff_lt, ge_iff_le, Nat.lt_add_one, Nat.zero_lt_succ, beq_iff_eq, Nat.mul_zero, Nat.zero_mul, Nat.mul_one, List.append_nil, not_true_eq_false, not_false_eq_true, ne_eq, Bool.not_eq_true, Bool.decide_and, Bool.decide_eq_true, Int.reduceNeg, zvar1, chunks, depth, some_map, List.length_map, List.getElem?_map, Nat.reduceBEq, Bool.not_eq_false, Nat.beq_eq, cf_dyn, okU, Try.f9, rf9, List.take_zero, List.flatMap_nil, sC]) with ⟨h, e1⟩ | ⟨j, r, hj, hr, hq, h, e1⟩
  · rw [e1, List.take_length, show p.query.p :: p.rules.flatMap ruleN = allN p from rfl]
    unfold NS at e ⊢
    generalize allN p = m at e ⊢
    simp only [R0, zipEnv, Nat.reduceLT, Nat.reduceAdd, Nat.reduceEqDiff, Nat.reduceLeDiff, if_true, if_false, reduceCtorEq, ↓reduceIte, List.toList_toArray, Option.map_some, Option.bind_some, List.getElem?_toArray, List.getElem?_cons_zero, List.getElem?_cons_succ, List.size_toArray, Bool.not_true, Bool.not_false, decide_true, decide_false, BEq.rfl, Bool.true_eq_false, Bool.false_eq_true, beq_self_eq_true, List.map_cons, List.map_nil, eq_self, decide_eq_true_eq, Nat.lt_irrefl, Int.lt_irrefl, Int.ofNat_lt, ares, aresult, pr, Int.reduceEq, Int.reduceLT, Int.reduceLE, Nat.reduceSub, Nat.reduceMul, bne_self_eq_false, Bool.beq_eq_decide_eq, Bool.and_true, Bool.true_and, Bool.and_false, Bool.false_and, Bool.or_true, Bool.true_or, Bool.or_false, Bool.false_or, aFieldAddr, aField, aLoad, aStore, aExtract, aBox, aint, rdVar, rdCells, Value.oneCell', List.all_cons, List.all_nil, List.length_cons, List.length_nil, List.drop_zero, List.drop_succ_cons, List.take_succ_cons, List.take_zero, Nat.zero_add, Nat.add_zero, List.nil_append, List.cons_append, Int.natCast_nonneg, Int.toNat_natCast, Nat.zero_le, Nat.le_refl, Bool.and_self, Bool.or_self, splice, List.set_cons_zero, List.set_cons_succ, Option.map_none, List.getElem?_nil, gt_iff_lt, ge_iff_le, Nat.lt_add_one, Nat.zero_lt_succ, beq_iff_eq, Nat.mul_zero, Nat.zero_mul, Nat.mul_one, List.append_nil, not_true_eq_false, not_false_eq_true, ne_eq, Bool.not_eq_true, Bool.decide_and, Bool.decide_eq_true, Int.reduceNeg, zvar1, chunks, depth, some_map, List.length_map, List.getElem?_map, Nat.reduceBEq, Bool.not_eq_false, Nat.beq_eq, cf_dyn, okU, Try.f9, rf9, e]
  · cases hq
end Go.Proofs.YtigfnhbbfbnicaaA
