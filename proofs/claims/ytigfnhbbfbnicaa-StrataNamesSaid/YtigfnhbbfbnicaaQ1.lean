/- Structs' equality: terms. -/
import Derived.Test.YtigfnhbbfbnicaaB
namespace Go.Proofs.YtigfnhbbfbnicaaA
open Go Go.RowKit
set_option linter.all false
set_option linter.unusedSectionVars false
set_option linter.constructorNameAsVariable false
set_option linter.unusedVariables false
set_option linter.unusedSimpArgs false
theorem eqIn_I {P : Program} {t : TypeId} {kk k : IntKind} {a c : Int} (h : P.underlying t = some (.int kk)) (d : Nat) : pureRun P (Op.equalIn (d + 1) t (.int k a) (.int k c)) = some (decide (a = c)) := by
  simp only [Op.equalIn, pureRun_bind, pureRun_under h, Option.bind_some, pureRun_pure, if_true]
  rfl
theorem partI {P : Program} {t : TypeId} {kk : IntKind} {cs : Array Value} {i : Nat} {v : Value} (h : P.underlying t = some (.int kk)) (hv : cs[i]? = some v) : pureRun P (part t cs i) = some v := by
  simp [part, isAgg, pureRun_bind, pureRun_under h, pureRun_pure, hv]
theorem pEq_struct {P : Program} {t : TypeId} {fs : Array Field} {xs ys : Array Value} (ht : P.underlying t = some (.struct fs)) (hp : P.stoodInHeld t = false) (d : Nat) : pureRun P (Op.equalIn (d + 1) t (.agg xs) (.agg ys)) = pureRun P (Op.eqFields d xs ys fs.toList) := by
  rw [Op.equalIn]
  simp only [pureRun_bind, pureRun_under ht, Option.bind_some, pureRun_program, hp, Bool.false_eq_true, if_false]
  rw [← Array.forIn_toList]
  generalize fs.toList = l
  clear ht
  induction l with
  | nil => simp [Op.eqFields, pureRun_pure]
  | cons f fs ih =>
    simp only [List.forIn_cons, Op.eqFields, pureRun_bind]
    by_cases hn : f.name ≠ "_"
    · rw [if_pos hn, if_pos hn]
      simp only [pureRun_bind]
      cases pureRun P (part f.type xs f.offset) with
      | none => rfl
      | some a =>
        simp only [Option.bind_some]
        cases pureRun P (part f.type ys f.offset) with
        | none => rfl
        | some b =>
          simp only [Option.bind_some]
          cases pureRun P (Op.equalIn d f.type a b) with
          | none => rfl
          | some r =>
            simp only [Option.bind_some]
            cases r
            · simp [pureRun_pure, pureRun_bind]
            · simpa [pureRun_pure, pureRun_bind] using ih
    · rw [if_neg hn, if_neg hn]
      simpa [pureRun_pure, pureRun_bind] using ih
theorem pSize {P : Program} {t : TypeId} {n : Nat} (hz : szOf P t = some n) : pureRun P (sizeOf t) = some n := by
  obtain ⟨i, hi, e⟩ := Option.map_eq_some_iff.1 hz
  simp [sizeOf, typeInfo, pureRun_bind, pureRun_program, hi, pureRun_pure, e]
theorem pPart_agg {P : Program} {t : TypeId} {fs : Array Field} {cs ds : Array Value} {off n : Nat} (hu : P.underlying t = some (.struct fs)) (hz : szOf P t = some n) (he : cs.extract off (off + n) = ds) : pureRun P (part t cs off) = some (.agg ds) := by
  subst he
  have ha : pureRun P (isAgg t) = some true := by simp [isAgg, pureRun_bind, pureRun_under hu, pureRun_pure]
  rw [part]
  simp only [pureRun_bind, ha, Option.bind_some, if_true, pSize hz, pureRun_pure]
theorem pFields_nil {P : Program} {d : Nat} {xs ys : Array Value} : pureRun P (Op.eqFields d xs ys []) = some true := by simp only [Op.eqFields, pureRun_pure]
theorem pFields_cons {P : Program} {d : Nat} {xs ys : Array Value} {f : Field} {fs : List Field} {x y : Value} {b r : Bool} (hn : f.name ≠ "_") (hx : pureRun P (part f.type xs f.offset) = some x) (hy : pureRun P (part f.type ys f.offset) = some y) (he : pureRun P (Op.equalIn d f.type x y) = some b) (hr : pureRun P (Op.eqFields d xs ys fs) = some r) : pureRun P (Op.eqFields d xs ys (f :: fs)) = some (b && r) := by
  simp only [Op.eqFields, if_pos hn, pureRun_bind, hx, hy, he, Option.bind_some]
  cases b
  · simp [pureRun_pure]
  · simpa using hr
theorem heldTerm : Try.prog.stoodInHeld 47 = false := by kernel_rfl
theorem heldVal : Try.prog.stoodInHeld 45 = false := by kernel_rfl
theorem eqT {a b : TermT} (d : Nat) : pureRun Try.prog (Op.equalIn (d + 3) 47 (.agg #[.string a.v, .int .i64 a.k, .int .i64 a.n, .string a.s]) (.agg #[.string b.v, .int .i64 b.k, .int .i64 b.n, .string b.s])) = some (decide (a = b)) := by
  rw [pEq_struct Try.underlying47 heldTerm]
  have hv : pureRun Try.prog (Op.equalIn (d + 2) 45 (.agg #[.int .i64 a.k, .int .i64 a.n, .string a.s]) (.agg #[.int .i64 b.k, .int .i64 b.n, .string b.s])) = some (decide (a.k = b.k) && (decide (a.n = b.n) && (decide (a.s = b.s) && true))) := by
    rw [pEq_struct Try.underlying45 heldVal]
    exact pFields_cons (by decide) (partI Try.underlying3 rfl) (partI Try.underlying3 rfl) (eqIn_I Try.underlying3 _) (pFields_cons (by decide) (partI Try.underlying2 rfl) (partI Try.underlying2 rfl) (eqIn_I Try.underlying2 _) (pFields_cons (by decide) (part_S Try.underlying9 rfl) (part_S Try.underlying9 rfl) (eqIn_S Try.underlying9 _) pFields_nil))
  refine Eq.trans (pFields_cons (by decide) (part_S Try.underlying9 rfl) (part_S Try.underlying9 rfl) (eqIn_S Try.underlying9 _) (pFields_cons (by decide) (pPart_agg Try.underlying45 sz45 rfl) (pPart_agg Try.underlying45 sz45 rfl) hv pFields_nil)) ?_
  refine congrArg some ?_
  obtain ⟨a1, a2, a3, a4⟩ := a
  obtain ⟨b1, b2, b3, b4⟩ := b
  rw [Bool.eq_iff_iff]
  simp
theorem guardTerm : Try.prog.eqGuardType Try.prog.depth 47 = false := by kernel_rfl
theorem aBin_T {op : BinOp} {H : List Blk} {p q : Operand} {a b : TermT} (hop : op = .eql ∨ op = .neq) : aBin Try.prog H op 47 p q (.agg [.sc (.string a.v), .sc (.int .i64 a.k), .sc (.int .i64 a.n), .sc (.string a.s)]) (.agg [.sc (.string b.v), .sc (.int .i64 b.k), .sc (.int .i64 b.n), .sc (.string b.s)]) = some (.val (.sc (.bool (if op = .eql then decide (a = b) else !decide (a = b))))) := by
  unfold aBin
  rw [nilTest_flat' rfl rfl, ptrTest_flat' rfl]
  have h' : pureRun Try.prog (Op.equal 47 (.agg #[.string a.v, .int .i64 a.k, .int .i64 a.n, .string a.s]) (.agg #[.string b.v, .int .i64 b.k, .int .i64 b.n, .string b.s])) = some (decide (a = b)) := eqT 9997
  have hgs : pureRun Try.prog (eqGuard op 47 p q (.agg #[.string a.v, .int .i64 a.k, .int .i64 a.n, .string a.s]) (.agg #[.string b.v, .int .i64 b.k, .int .i64 b.n, .string b.s])) = some () := by
    rcases hop with rfl | rfl <;> simp [eqGuard, pureRun_bind, pureRun_pure, pureRun_program, guardTerm]
  rcases hop with rfl | rfl <;> simp only [toV, toVs, Option.map_some, Option.isSome_some, Bool.and_self, if_true, Option.getD_some, pOut, pureRun_bind, hgs, Option.bind_some, binOp, h', pureRun_pure, ofV, reduceCtorEq, if_false]
theorem eqTerm {H : List Blk} {p q : Operand} {a b : TermT} : aBin Try.prog H .eql 47 p q (.agg [.sc (.string a.v), .sc (.int .i64 a.k), .sc (.int .i64 a.n), .sc (.string a.s)]) (.agg [.sc (.string b.v), .sc (.int .i64 b.k), .sc (.int .i64 b.n), .sc (.string b.s)]) = some (.val (.sc (.bool (decide (a = b))))) := aBin_T (.inl rfl)
theorem neTerm {H : List Blk} {p q : Operand} {a b : TermT} : aBin Try.prog H .neq 47 p q (.agg [.sc (.string a.v), .sc (.int .i64 a.k), .sc (.int .i64 a.n), .sc (.string a.s)]) (.agg [.sc (.string b.v), .sc (.int .i64 b.k), .sc (.int .i64 b.n), .sc (.string b.s)]) = some (.val (.sc (.bool (!decide (a = b))))) := aBin_T (.inr rfl)
end Go.Proofs.YtigfnhbbfbnicaaA
