/- Arrays of two numbers: their equality. -/
import Derived.Test.YtigfnhbbfbnicaaN5
import Derived.Test.YtigfnhbbfbnicaaQ1
namespace Go.Proofs.YtigfnhbbfbnicaaA
open Go Go.RowKit
set_option linter.all false
set_option linter.unusedSectionVars false
set_option linter.constructorNameAsVariable false
set_option linter.unusedVariables false
set_option linter.unusedSimpArgs false
theorem eqIn_A {P : Program} {t s : TypeId} {kk k : IntKind} (hu : P.underlying t = some (.array 2 s)) (hs : P.underlying s = some (.int kk)) (hz : szOf P s = some 1) {a b c e : Int} (d : Nat) : pureRun P (Op.equalIn (d + 2) t (.agg #[.int k a, .int k b]) (.agg #[.int k c, .int k e])) = some (decide (a = c) && decide (b = e)) := by
  have hn : pureRun P (sizeOf s) = some 1 := by
    obtain ⟨i, hi, e⟩ := Option.map_eq_some_iff.1 hz
    simp [sizeOf, typeInfo, pureRun_bind, pureRun_program, hi, pureRun_pure, e]
  have p0 : ∀ x y : Value, pureRun P (part s #[x, y] 0) = some x := fun x y => partI hs rfl
  have p1 : ∀ x y : Value, pureRun P (part s #[x, y] 1) = some y := fun x y => partI hs rfl
  rw [Op.equalIn]
  simp only [pureRun_bind, pureRun_under hu, Option.bind_some, hn, Std.Legacy.Range.forIn_eq_forIn_range', Std.Legacy.Range.size]
  simp only [Nat.sub_zero, Nat.reduceAdd, Nat.reduceSub, Nat.div_one, List.range', List.forIn_cons, List.forIn_nil, pureRun_bind, Nat.zero_mul, Nat.one_mul, Nat.mul_one, p0, p1, Option.bind_some, eqIn_I hs]
  by_cases e1 : a = c
  · by_cases e2 : b = e
    · simp [e1, e2, pureRun_bind, pureRun_pure, p1, eqIn_I hs]
    · simp [e1, e2, pureRun_bind, pureRun_pure, p1, eqIn_I hs]
  · simp [e1, pureRun_bind, pureRun_pure]
theorem guardP : Try.prog.eqGuardType Try.prog.depth 40 = false := by kernel_rfl
theorem aBin_P {op : BinOp} {H : List Blk} {p q : Operand} {a b : I2} (hop : op = .eql ∨ op = .neq) : aBin Try.prog H op 40 p q (.agg (pC a)) (.agg (pC b)) = some (.val (.sc (.bool (if op = .eql then decide (a = b) else !decide (a = b))))) := by
  unfold aBin
  rw [nilTest_flat' rfl rfl, ptrTest_flat' rfl]
  have h' : pureRun Try.prog (Op.equal 40 (.agg #[.int .i64 a.1, .int .i64 a.2]) (.agg #[.int .i64 b.1, .int .i64 b.2])) = some (decide (a = b)) := by
    refine (eqIn_A (P := Try.prog) Try.underlying40 Try.underlying3 sz3 9998).trans (congrArg some ?_)
    obtain ⟨x, y⟩ := a
    obtain ⟨u, v⟩ := b
    rw [Bool.eq_iff_iff]
    simp
  have hgs : pureRun Try.prog (eqGuard op 40 p q (.agg #[.int .i64 a.1, .int .i64 a.2]) (.agg #[.int .i64 b.1, .int .i64 b.2])) = some () := by
    rcases hop with rfl | rfl <;> simp [eqGuard, pureRun_bind, pureRun_pure, pureRun_program, guardP]
  rcases hop with rfl | rfl <;> simp only [pC, toV, toVs, Option.map_some, Option.isSome_some, Bool.and_self, if_true, Option.getD_some, pOut, pureRun_bind, hgs, Option.bind_some, binOp, h', pureRun_pure, ofV, reduceCtorEq, if_false]
theorem eqPair {H : List Blk} {p q : Operand} {a b : I2} : aBin Try.prog H .eql 40 p q (.agg [.sc (.int .i64 a.1), .sc (.int .i64 a.2)]) (.agg [.sc (.int .i64 b.1), .sc (.int .i64 b.2)]) = some (.val (.sc (.bool (decide (a = b))))) := aBin_P (.inl rfl)
theorem nePair {H : List Blk} {p q : Operand} {a b : I2} : aBin Try.prog H .neq 40 p q (.agg [.sc (.int .i64 a.1), .sc (.int .i64 a.2)]) (.agg [.sc (.int .i64 b.1), .sc (.int .i64 b.2)]) = some (.val (.sc (.bool (!decide (a = b))))) := aBin_P (.inr rfl)
end Go.Proofs.YtigfnhbbfbnicaaA
