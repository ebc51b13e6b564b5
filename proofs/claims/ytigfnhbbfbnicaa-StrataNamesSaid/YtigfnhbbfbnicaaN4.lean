/- cmp.Less, slices.isNaN at strings (wanted by BinarySearch). -/
import Derived.Test.YtigfnhbbfbnicaaN3
import Derived.Sort.Walk0
namespace Go.Proofs.YtigfnhbbfbnicaaA
open Go Go.RowKit
set_option linter.all false
set_option linter.unusedSectionVars false
set_option linter.constructorNameAsVariable false
set_option linter.unusedVariables false
set_option linter.unusedSimpArgs false
theorem nanS (a : ByteArray) (k : Nat) (hk : 1 ≤ k) : val Try.prog cf k 78 [.sc (.string a)] = some (.sc (.bool false)) := by
  obtain ⟨k, rfl⟩ : ∃ j, k = j + 1 := ⟨k - 1, by omega⟩
  refine val_of (r := .sc (.bool false)) (H1 := []) ?_ rfl rfl
  rw [arun_body rfl rfl Try.func78 rfl (N := 6) rfl]
  simp only [R0, zipEnv, Nat.reduceLT, Nat.reduceAdd, Nat.reduceEqDiff, Nat.reduceLeDiff, if_true, if_false, reduceCtorEq, ↓reduceIte, List.toList_toArray, Option.map_some, Option.bind_some, List.getElem?_toArray, List.getElem?_cons_zero, List.getElem?_cons_succ, List.size_toArray, Bool.not_true, Bool.not_false, decide_true, decide_false, BEq.rfl, Bool.true_eq_false, Bool.false_eq_true, beq_self_eq_true, List.map_cons, List.map_nil, eq_self, decide_eq_true_eq, Nat.lt_irrefl, Int.lt_irrefl, Int.ofNat_lt, ares, aresult, pr, Int.reduceEq, Int.reduceLT, Int.reduceLE, Nat.reduceSub, Nat.reduceMul, bne_self_eq_false, Bool.beq_eq_decide_eq, Bool.and_true, Bool.true_and, Bool.and_false, Bool.false_and, Bool.or_true, Bool.true_or, Bool.or_false, Bool.false_or, aFieldAddr, aField, aLoad, aStore, aExtract, aBox, aint, rdVar, rdCells, Value.oneCell', List.all_cons, List.all_nil, List.length_cons, List.length_nil, List.drop_zero, List.drop_succ_cons, List.take_succ_cons, List.take_zero, Nat.zero_add, Nat.add_zero, List.nil_append, List.cons_append, Int.natCast_nonneg, Int.toNat_natCast, Nat.zero_le, Nat.le_refl, Bool.and_self, Bool.or_self, splice, List.set_cons_zero, List.set_cons_succ, Option.map_none, List.getElem?_nil, gt_iff_lt, ge_iff_le, Nat.lt_add_one, Nat.zero_lt_succ, beq_iff_eq, Nat.mul_zero, Nat.zero_mul, Nat.mul_one, List.append_nil, not_true_eq_false, not_false_eq_true, ne_eq, Bool.not_eq_true, Bool.decide_and, Bool.decide_eq_true, Int.reduceNeg, zvar1, chunks, depth, some_map, List.length_map, List.getElem?_map, Nat.reduceBEq, Bool.not_eq_false, Nat.beq_eq, cf_dyn, okU, Try.f78, rf78]
theorem snanS (a : ByteArray) (k : Nat) (hk : 1 ≤ k) : val Try.prog cf k 60 [.sc (.string a)] = some (.sc (.bool false)) := by
  obtain ⟨k, rfl⟩ : ∃ j, k = j + 1 := ⟨k - 1, by omega⟩
  refine val_of (r := .sc (.bool false)) (H1 := []) ?_ rfl rfl
  rw [arun_body rfl rfl Try.func60 rfl (N := 6) rfl]
  simp only [R0, zipEnv, Nat.reduceLT, Nat.reduceAdd, Nat.reduceEqDiff, Nat.reduceLeDiff, if_true, if_false, reduceCtorEq, ↓reduceIte, List.toList_toArray, Option.map_some, Option.bind_some, List.getElem?_toArray, List.getElem?_cons_zero, List.getElem?_cons_succ, List.size_toArray, Bool.not_true, Bool.not_false, decide_true, decide_false, BEq.rfl, Bool.true_eq_false, Bool.false_eq_true, beq_self_eq_true, List.map_cons, List.map_nil, eq_self, decide_eq_true_eq, Nat.lt_irrefl, Int.lt_irrefl, Int.ofNat_lt, ares, aresult, pr, Int.reduceEq, Int.reduceLT, Int.reduceLE, Nat.reduceSub, Nat.reduceMul, bne_self_eq_false, Bool.beq_eq_decide_eq, Bool.and_true, Bool.true_and, Bool.and_false, Bool.false_and, Bool.or_true, Bool.true_or, Bool.or_false, Bool.false_or, aFieldAddr, aField, aLoad, aStore, aExtract, aBox, aint, rdVar, rdCells, Value.oneCell', List.all_cons, List.all_nil, List.length_cons, List.length_nil, List.drop_zero, List.drop_succ_cons, List.take_succ_cons, List.take_zero, Nat.zero_add, Nat.add_zero, List.nil_append, List.cons_append, Int.natCast_nonneg, Int.toNat_natCast, Nat.zero_le, Nat.le_refl, Bool.and_self, Bool.or_self, splice, List.set_cons_zero, List.set_cons_succ, Option.map_none, List.getElem?_nil, gt_iff_lt, ge_iff_le, Nat.lt_add_one, Nat.zero_lt_succ, beq_iff_eq, Nat.mul_zero, Nat.zero_mul, Nat.mul_one, List.append_nil, not_true_eq_false, not_false_eq_true, ne_eq, Bool.not_eq_true, Bool.decide_and, Bool.decide_eq_true, Int.reduceNeg, zvar1, chunks, depth, some_map, List.length_map, List.getElem?_map, Nat.reduceBEq, Bool.not_eq_false, Nat.beq_eq, cf_dyn, okU, Try.f60, rf60]
theorem aBin_lssS {H : List Blk} {t : TypeId} {p q : Operand} {a b : ByteArray} (h : Try.prog.underlying t = some .string) : aBin Try.prog H .lss t p q (.sc (.string a)) (.sc (.string b)) = some (.val (.sc (.bool (Ord.ltS a b)))) := by
  have e : Op.bytesLess a.toList b.toList = Ord.ltS a b := by
    rw [Go.Proofs.bytesLess_eq, Lib.toList_data, Lib.toList_data]
    rfl
  unfold aBin
  rw [nilTest_flat' rfl rfl, ptrTest_flat' rfl]
  simp [toV, pOut, eqGuard, binOp, Op.stringOp, pureRun, ofV, pureRun_bind, pureRun_pure, e]
theorem less_run (a b : ByteArray) (k : Nat) (hk : 2 ≤ k) : val Try.prog cf k 59 [.sc (.string a), .sc (.string b)] = some (.sc (.bool (Ord.ltS a b))) := by
  obtain ⟨k, rfl⟩ : ∃ j, k = j + 1 := ⟨k - 1, by omega⟩
  refine val_of (r := .sc (.bool (Ord.ltS a b))) (H1 := []) ?_ rfl rfl
  rw [arun_body rfl rfl Try.func59 rfl (N := 17) rfl]
  simp only [R0, zipEnv, Nat.reduceLT, Nat.reduceAdd, Nat.reduceEqDiff, Nat.reduceLeDiff, if_true, if_false, reduceCtorEq, ↓reduceIte, List.toList_toArray, Option.map_some, Option.bind_some, List.getElem?_toArray, List.getElem?_cons_zero, List.getElem?_cons_succ, List.size_toArray, Bool.not_true, Bool.not_false, decide_true, decide_false, BEq.rfl, Bool.true_eq_false, Bool.false_eq_true, beq_self_eq_true, List.map_cons, List.map_nil, eq_self, decide_eq_true_eq, Nat.lt_irrefl, Int.lt_irrefl, Int.ofNat_lt, ares, aresult, pr, Int.reduceEq, Int.reduceLT, Int.reduceLE, Nat.reduceSub, Nat.reduceMul, bne_self_eq_false, Bool.beq_eq_decide_eq, Bool.and_true, Bool.true_and, Bool.and_false, Bool.false_and, Bool.or_true, Bool.true_or, Bool.or_false, Bool.false_or, aFieldAddr, aField, aLoad, aStore, aExtract, aBox, aint, rdVar, rdCells, Value.oneCell', List.all_cons, List.all_nil, List.length_cons, List.length_nil, List.drop_zero, List.drop_succ_cons, List.take_succ_cons, List.take_zero, Nat.zero_add, Nat.add_zero, List.nil_append, List.cons_append, Int.natCast_nonneg, Int.toNat_natCast, Nat.zero_le, Nat.le_refl, Bool.and_self, Bool.or_self, splice, List.set_cons_zero, List.set_cons_succ, Option.map_none, List.getElem?_nil, gt_iff_lt, ge_iff_le, Nat.lt_add_one, Nat.zero_lt_succ, beq_iff_eq, Nat.mul_zero, Nat.zero_mul, Nat.mul_one, List.append_nil, not_true_eq_false, not_false_eq_true, ne_eq, Bool.not_eq_true, Bool.decide_and, Bool.decide_eq_true, Int.reduceNeg, zvar1, chunks, depth, some_map, List.length_map, List.getElem?_map, Nat.reduceBEq, Bool.not_eq_false, Nat.beq_eq, cf_dyn, okU, Try.f59, rf59, nanS a k (by omega), nanS b k (by omega), aBin_lssS Try.underlying9]
theorem shr1 {k : IntKind} {a : Nat} : Op.shift .shr .u64 (a : Nat) k 1 = pure (.int .u64 ((a / 2 : Nat) : Int)) := by
  have e : Int.fdiv (a : Int) (2 ^ 1) = ((a / 2 : Nat) : Int) := by
    rw [Int.fdiv_eq_ediv_of_nonneg _ (by decide)]
    omega
  unfold Op.shift
  rw [if_neg (by decide)]
  show pure (Value.int .u64 (Int.fdiv (a : Int) (2 ^ 1))) = _
  rw [e]
theorem aBin_shr1 {H : List Blk} {t : TypeId} {p q : Operand} {k : IntKind} {a : Nat} : aBin Try.prog H .shr t p q (.sc (.int .u64 (a : Nat))) (.sc (.int k 1)) = some (.val (.sc (.int .u64 ((a / 2 : Nat) : Int)))) := by
  unfold aBin
  rw [nilTest_flat' rfl rfl, ptrTest_flat' rfl]
  have hg : pureRun Try.prog (eqGuard .shr t p q (.int .u64 (a : Nat)) (.int k 1)) = some () := rfl
  simp only [toV, Option.isSome_some, Bool.and_self, if_true, Option.getD_some, pOut, pureRun_bind, hg, Option.bind_some, binOp, shr1, pureRun_pure, ofV, Option.map_some]
end Go.Proofs.YtigfnhbbfbnicaaA
