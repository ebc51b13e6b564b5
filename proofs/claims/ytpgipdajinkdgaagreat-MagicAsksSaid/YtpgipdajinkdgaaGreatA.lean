/- A part of the proof of MagicAsks: functions of the program, run by the evaluator. -/

/- Data that a seat's functions are about, and how the evaluator tells it. -/
import Derived.Test.YtpgipdajinkdgaaGreatT
namespace Go.Proofs.YtpgipdajinkdgaaGreatA
open Go Go.RowKit
set_option linter.all false
set_option linter.unusedSectionVars false
set_option linter.constructorNameAsVariable false
set_option linter.unusedVariables false
set_option linter.unusedSimpArgs false
abbrev D2 := ByteArray × ByteArray
def D2.c (d : D2) : List AV := [.sc (.string d.1), .sc (.string d.2)]
theorem eqIn_S {P : Program} {t : TypeId} {a c : ByteArray} (h : P.underlying t = some .string) (d : Nat) : pureRun P (Op.equalIn (d + 1) t (.string a) (.string c)) = some (decide (a = c)) := by
  simp only [Op.equalIn, pureRun_bind, pureRun_under h, Option.bind_some, pureRun_pure]
  rw [show (a == c) = decide (a = c) by rw [beq_toListBytes, bytes_eq]]
theorem pureRun_program {P : Program} : pureRun P program = some P := rfl
theorem part_S {P : Program} {t : TypeId} {cs : Array Value} {i : Nat} {v : Value} (h : P.underlying t = some .string) (hv : cs[i]? = some v) : pureRun P (part t cs i) = some v := by
  simp [part, isAgg, pureRun_bind, pureRun_under h, pureRun_pure, hv]
theorem part_0 {P : Program} {t : TypeId} {a b : Value} (h : P.underlying t = some .string) : pureRun P (part t #[a, b] 0) = some a := part_S h rfl
theorem part_1 {P : Program} {t : TypeId} {a b : Value} (h : P.underlying t = some .string) : pureRun P (part t #[a, b] 1) = some b := part_S h rfl
theorem eqIn_SS {P : Program} {t s : TypeId} {f0 f1 : Field} (hu : P.underlying t = some (.struct #[f0, f1])) (h0 : f0.type = s) (h1 : f1.type = s) (o0 : f0.offset = 0) (o1 : f1.offset = 1) (n0 : f0.name ≠ "_") (n1 : f1.name ≠ "_") (hh : P.stoodInHeld t = false) (hs : P.underlying s = some .string) {a b c e : ByteArray} (d : Nat) : pureRun P (Op.equalIn (d + 2) t (.agg #[.string a, .string b]) (.agg #[.string c, .string e])) = some (decide (a = c) && decide (b = e)) := by
  rw [Op.equalIn]
  simp only [pureRun_bind, pureRun_under hu, Option.bind_some, pureRun_program, hh, Bool.false_eq_true, if_false]
  rw [← Array.forIn_toList]
  simp only [List.toList_toArray, List.forIn_cons, List.forIn_nil, pureRun_bind, n0, n1, h0, h1, o0, o1, ne_eq, if_true, not_false_eq_true, part_0 hs, part_1 hs, Option.bind_some, eqIn_S hs]
  by_cases e1 : a = c
  · by_cases e2 : b = e
    · simp [e1, e2, n1, h1, o1, pureRun_bind, pureRun_pure, part_1 hs, eqIn_S hs]
    · simp [e1, e2, n1, h1, o1, pureRun_bind, pureRun_pure, part_1 hs, eqIn_S hs]
  · simp [e1, pureRun_bind, pureRun_pure]
theorem eqD {x y : D2} : (decide (x.1 = y.1) && decide (x.2 = y.2)) = decide (x = y) := by
  obtain ⟨a, b⟩ := x
  obtain ⟨c, d⟩ := y
  rw [Bool.eq_iff_iff]
  simp
theorem aBin_SS {op : BinOp} {t : TypeId} {H : List Blk} {p q : Operand} {a b c e : ByteArray} (hop : op = .eql ∨ op = .neq) (hg : Tryz.prog.eqGuardType Tryz.prog.depth t = false) (h : ∀ d, pureRun Tryz.prog (Op.equalIn (d + 2) t (.agg #[.string a, .string b]) (.agg #[.string c, .string e])) = some (decide (a = c) && decide (b = e))) :
    aBin Tryz.prog H op t p q (.agg [.sc (.string a), .sc (.string b)]) (.agg [.sc (.string c), .sc (.string e)]) = some (.val (.sc (.bool (if op = .eql then (decide (a = c) && decide (b = e)) else !(decide (a = c) && decide (b = e)))))) := by
  unfold aBin
  rw [nilTest_flat' rfl rfl, ptrTest_flat' rfl]
  have h' : pureRun Tryz.prog (Op.equal t (.agg #[.string a, .string b]) (.agg #[.string c, .string e])) = some (decide (a = c) && decide (b = e)) := h 9998
  have hgs : pureRun Tryz.prog (eqGuard op t p q (.agg #[.string a, .string b]) (.agg #[.string c, .string e])) = some () := by
    rcases hop with rfl | rfl <;> simp [eqGuard, pureRun_bind, pureRun_pure, pureRun_program, hg]
  rcases hop with rfl | rfl <;> simp only [toV, toVs, Option.map_some, Option.isSome_some, Bool.and_self, if_true, Option.getD_some, pOut, pureRun_bind, hgs, Option.bind_some, binOp, h', pureRun_pure, ofV, reduceCtorEq, if_false]
def sC (s : ByteArray) : List AV := [.sc (.string s)]
structure TermT where
  v : ByteArray
  k : Int
  n : Int
  s : ByteArray
  deriving DecidableEq
def TermT.c (t : TermT) : List AV := [.sc (.string t.v), .sc (.int .i64 t.k), .sc (.int .i64 t.n), .sc (.string t.s)]
structure AtomT where
  p : ByteArray
  args : List TermT
  deriving DecidableEq
def AtomT.c (a : AtomT) : List AV := [.sc (.string a.p), mkL 4 (a.args.map TermT.c)]
structure StepT where
  k : Int
  l : ByteArray
  deriving DecidableEq
def StepT.c (x : StepT) : List AV := [.sc (.int .i64 x.k), .sc (.string x.l)]
structure LitT where
  k : Int
  a : AtomT
  op : ByteArray
  A : TermT
  B : TermT
  C : TermT
  path : List StepT
  deriving DecidableEq
def LitT.c (l : LitT) : List AV := [.sc (.int .i64 l.k), .sc (.string l.a.p), mkL 4 (l.a.args.map TermT.c), .sc (.string l.op), .sc (.string l.A.v), .sc (.int .i64 l.A.k), .sc (.int .i64 l.A.n), .sc (.string l.A.s), .sc (.string l.B.v), .sc (.int .i64 l.B.k), .sc (.int .i64 l.B.n), .sc (.string l.B.s), .sc (.string l.C.v), .sc (.int .i64 l.C.k), .sc (.int .i64 l.C.n), .sc (.string l.C.s), mkL 2 (l.path.map StepT.c)]
structure RuleT where
  head : AtomT
  fold : Int
  body : List LitT
  deriving DecidableEq
def RuleT.c (r : RuleT) : List AV := [.sc (.string r.head.p), mkL 4 (r.head.args.map TermT.c), .sc (.int .i64 r.fold), mkL 17 (r.body.map LitT.c)]
structure ProgT where
  rules : List RuleT
  query : AtomT
  deriving DecidableEq
def ProgT.c (p : ProgT) : List AV := [mkL 4 (p.rules.map RuleT.c), .sc (.string p.query.p), mkL 4 (p.query.args.map TermT.c)]
end Go.Proofs.YtpgipdajinkdgaaGreatA
