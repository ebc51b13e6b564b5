/- A part of the proof of StrataFewer: functions of the program, run by the evaluator. -/

/- Data that a seat's functions are about, and how the evaluator tells it. -/
import Derived.Test.YtigfnhbbfbnicaaT
namespace Go.Proofs.YtigfnhbbfbnicaaA
open Go Go.RowKit
set_option linter.all false
set_option linter.unusedSectionVars false
set_option linter.constructorNameAsVariable false
set_option linter.unusedVariables false
set_option linter.unusedSimpArgs false
abbrev D2 := ByteArray × ByteArray
def D2.c (d : D2) : List AV := [.sc (.string d.1), .sc (.string d.2)]
theorem pureRun_program {P : Program} : pureRun P program = some P := rfl
def sC (s : ByteArray) : List AV := [.sc (.string s)]
structure TermT where
  v : ByteArray
  k : Int
  n : Int
  s : ByteArray
  deriving DecidableEq
def TermT.c (t : TermT) : List AV := [.sc (.string t.v), .sc (.int .i64 t.k), .sc (.int .i64 t.n), .sc (.string t.s)]
structure AtomT where
  p : ByteArray
  args : List TermT
  deriving DecidableEq
def AtomT.c (a : AtomT) : List AV := [.sc (.string a.p), mkL 4 (a.args.map TermT.c)]
structure StepT where
  k : Int
  l : ByteArray
  deriving DecidableEq
def StepT.c (x : StepT) : List AV := [.sc (.int .i64 x.k), .sc (.string x.l)]
structure LitT where
  k : Int
  a : AtomT
  op : ByteArray
  A : TermT
  B : TermT
  C : TermT
  path : List StepT
  deriving DecidableEq
def LitT.c (l : LitT) : List AV := [.sc (.int .i64 l.k), .sc (.string l.a.p), mkL 4 (l.a.args.map TermT.c), .sc (.string l.op), .sc (.string l.A.v), .sc (.int .i64 l.A.k), .sc (.int .i64 l.A.n), .sc (.string l.A.s), .sc (.string l.B.v), .sc (.int .i64 l.B.k), .sc (.int .i64 l.B.n), .sc (.string l.B.s), .sc (.string l.C.v), .sc (.int .i64 l.C.k), .sc (.int .i64 l.C.n), .sc (.string l.C.s), mkL 2 (l.path.map StepT.c)]
structure RuleT where
  head : AtomT
  fold : Int
  body : List LitT
  deriving DecidableEq
def RuleT.c (r : RuleT) : List AV := [.sc (.string r.head.p), mkL 4 (r.head.args.map TermT.c), .sc (.int .i64 r.fold), mkL 17 (r.body.map LitT.c)]
structure ProgT where
  rules : List RuleT
  query : AtomT
  deriving DecidableEq
def ProgT.c (p : ProgT) : List AV := [mkL 4 (p.rules.map RuleT.c), .sc (.string p.query.p), mkL 4 (p.query.args.map TermT.c)]
end Go.Proofs.YtigfnhbbfbnicaaA
