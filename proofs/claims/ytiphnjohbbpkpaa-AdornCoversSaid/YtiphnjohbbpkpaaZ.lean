/- A part of the proof of AdornCovers: functions of the program, run by the evaluator. -/
import Derived.Test.YtiphnjohbbpkpaaAvX
import Derived.Test.YtiphnjohbbpkpaaProg
namespace Go.Proofs.YtiphnjohbbpkpaaA
open Go Go.RowKit
set_option linter.all false
set_option linter.unusedSectionVars false
set_option linter.constructorNameAsVariable false
set_option linter.unusedSimpArgs false
theorem eqIn_S {P : Program} {t : TypeId} {a c : ByteArray} (h : P.underlying t = some .string) (d : Nat) : pureRun P (Op.equalIn (d + 1) t (.string a) (.string c)) = some (decide (a = c)) := by
  simp only [Op.equalIn, pureRun_bind, pureRun_under h, Option.bind_some, pureRun_pure]
  rw [show (a == c) = decide (a = c) by rw [beq_toListBytes, bytes_eq]]
theorem pureRun_program {P : Program} : pureRun P program = some P := rfl
theorem part_S {P : Program} {t : TypeId} {cs : Array Value} {i : Nat} {v : Value} (h : P.underlying t = some .string) (hv : cs[i]? = some v) : pureRun P (part t cs i) = some v := by
  simp [part, isAgg, pureRun_bind, pureRun_under h, pureRun_pure, hv]
theorem held24 : Try.prog.stoodInHeld 24 = false := by kernel_rfl
theorem part_0 {P : Program} {t : TypeId} {a b : Value} (h : P.underlying t = some .string) : pureRun P (part t #[a, b] 0) = some a := part_S h rfl
theorem part_1 {P : Program} {t : TypeId} {a b : Value} (h : P.underlying t = some .string) : pureRun P (part t #[a, b] 1) = some b := part_S h rfl
theorem eqIn_SS {a b c e : ByteArray} (d : Nat) : pureRun Try.prog (Op.equalIn (d + 2) 24 (.agg #[.string a, .string b]) (.agg #[.string c, .string e])) = some (decide (a = c) && decide (b = e)) := by
  rw [Op.equalIn]
  simp only [pureRun_bind, pureRun_under Try.underlying24, Option.bind_some, pureRun_program, held24, Bool.false_eq_true, if_false]
  rw [← Array.forIn_toList]
  simp only [List.toList_toArray, List.forIn_cons, List.forIn_nil, pureRun_bind, ne_eq, if_true, String.reduceEq, not_false_eq_true, part_0 Try.underlying9, part_1 Try.underlying9, Option.bind_some, eqIn_S Try.underlying9]
  by_cases h1 : a = c
  · by_cases h2 : b = e
    · simp [h1, h2, pureRun_bind, pureRun_pure, part_1 Try.underlying9, eqIn_S Try.underlying9]
    · simp [h1, h2, pureRun_bind, pureRun_pure, part_1 Try.underlying9, eqIn_S Try.underlying9]
  · simp [h1, pureRun_bind, pureRun_pure]
theorem guard24 : Try.prog.eqGuardType Try.prog.depth 24 = false := by kernel_rfl
theorem guardSS {op : BinOp} {p q : Operand} {xs ys : Array Value} : pureRun Try.prog (eqGuard op 24 p q (.agg xs) (.agg ys)) = some () := by
  cases op <;> simp [eqGuard, pureRun_bind, pureRun_pure, pureRun_program, guard24]
theorem aBin_eqlD {H : List Blk} {p q : Operand} {a b c e : ByteArray} : aBin Try.prog H .eql 24 p q (.agg [.sc (.string a), .sc (.string b)]) (.agg [.sc (.string c), .sc (.string e)]) = some (.val (.sc (.bool (decide (a = c) && decide (b = e))))) := by
  unfold aBin
  rw [nilTest_flat' rfl rfl, ptrTest_flat' rfl]
  have h := eqIn_SS (a := a) (b := b) (c := c) (e := e) 9998
  have h' : pureRun Try.prog (Op.equal 24 (.agg #[.string a, .string b]) (.agg #[.string c, .string e])) = some (decide (a = c) && decide (b = e)) := h
  simp only [toV, toVs, Option.map_some, Option.isSome_some, Bool.and_self, if_true, Option.getD_some, pOut, pureRun_bind, guardSS, Option.bind_some, binOp, h', pureRun_pure, ofV]
theorem aBin_neqD {H : List Blk} {p q : Operand} {a b c e : ByteArray} : aBin Try.prog H .neq 24 p q (.agg [.sc (.string a), .sc (.string b)]) (.agg [.sc (.string c), .sc (.string e)]) = some (.val (.sc (.bool (!(decide (a = c) && decide (b = e)))))) := by
  unfold aBin
  rw [nilTest_flat' rfl rfl, ptrTest_flat' rfl]
  have h := eqIn_SS (a := a) (b := b) (c := c) (e := e) 9998
  have h' : pureRun Try.prog (Op.equal 24 (.agg #[.string a, .string b]) (.agg #[.string c, .string e])) = some (decide (a = c) && decide (b = e)) := h
  simp only [toV, toVs, Option.map_some, Option.isSome_some, Bool.and_self, if_true, Option.getD_some, pOut, pureRun_bind, guardSS, Option.bind_some, binOp, h', pureRun_pure, ofV]
theorem held27 : Try.prog.stoodInHeld 27 = false := by kernel_rfl
theorem eqIn_SS27 {a b c e : ByteArray} (d : Nat) : pureRun Try.prog (Op.equalIn (d + 2) 27 (.agg #[.string a, .string b]) (.agg #[.string c, .string e])) = some (decide (a = c) && decide (b = e)) := by
  rw [Op.equalIn]
  simp only [pureRun_bind, pureRun_under Try.underlying27, Option.bind_some, pureRun_program, held27, Bool.false_eq_true, if_false]
  rw [← Array.forIn_toList]
  simp only [List.toList_toArray, List.forIn_cons, List.forIn_nil, pureRun_bind, ne_eq, if_true, String.reduceEq, not_false_eq_true, part_0 Try.underlying9, part_1 Try.underlying9, Option.bind_some, eqIn_S Try.underlying9]
  by_cases h1 : a = c
  · by_cases h2 : b = e
    · simp [h1, h2, pureRun_bind, pureRun_pure, part_1 Try.underlying9, eqIn_S Try.underlying9]
    · simp [h1, h2, pureRun_bind, pureRun_pure, part_1 Try.underlying9, eqIn_S Try.underlying9]
  · simp [h1, pureRun_bind, pureRun_pure]
theorem guard27 : Try.prog.eqGuardType Try.prog.depth 27 = false := by kernel_rfl
theorem guardSS27 {op : BinOp} {p q : Operand} {xs ys : Array Value} : pureRun Try.prog (eqGuard op 27 p q (.agg xs) (.agg ys)) = some () := by
  cases op <;> simp [eqGuard, pureRun_bind, pureRun_pure, pureRun_program, guard27]
theorem aBin_eqlD27 {H : List Blk} {p q : Operand} {a b c e : ByteArray} : aBin Try.prog H .eql 27 p q (.agg [.sc (.string a), .sc (.string b)]) (.agg [.sc (.string c), .sc (.string e)]) = some (.val (.sc (.bool (decide (a = c) && decide (b = e))))) := by
  unfold aBin
  rw [nilTest_flat' rfl rfl, ptrTest_flat' rfl]
  have h := eqIn_SS27 (a := a) (b := b) (c := c) (e := e) 9998
  have h' : pureRun Try.prog (Op.equal 27 (.agg #[.string a, .string b]) (.agg #[.string c, .string e])) = some (decide (a = c) && decide (b = e)) := h
  simp only [toV, toVs, Option.map_some, Option.isSome_some, Bool.and_self, if_true, Option.getD_some, pOut, pureRun_bind, guardSS27, Option.bind_some, binOp, h', pureRun_pure, ofV]
theorem aBin_neqD27 {H : List Blk} {p q : Operand} {a b c e : ByteArray} : aBin Try.prog H .neq 27 p q (.agg [.sc (.string a), .sc (.string b)]) (.agg [.sc (.string c), .sc (.string e)]) = some (.val (.sc (.bool (!(decide (a = c) && decide (b = e)))))) := by
  unfold aBin
  rw [nilTest_flat' rfl rfl, ptrTest_flat' rfl]
  have h := eqIn_SS27 (a := a) (b := b) (c := c) (e := e) 9998
  have h' : pureRun Try.prog (Op.equal 27 (.agg #[.string a, .string b]) (.agg #[.string c, .string e])) = some (decide (a = c) && decide (b = e)) := h
  simp only [toV, toVs, Option.map_some, Option.isSome_some, Bool.and_self, if_true, Option.getD_some, pOut, pureRun_bind, guardSS27, Option.bind_some, binOp, h', pureRun_pure, ofV]
theorem sz24 : szOf Try.prog 24 = some 2 := by kernel_rfl
theorem sz9 : szOf Try.prog 9 = some 1 := by kernel_rfl
theorem sz27 : szOf Try.prog 27 = some 2 := by kernel_rfl
theorem ag27 : aggB Try.prog 27 = some true := by kernel_rfl
theorem ag24 : aggB Try.prog 24 = some true := by kernel_rfl
theorem ag9 : aggB Try.prog 9 = some false := by kernel_rfl
abbrev D2 := ByteArray × ByteArray
def dr (d : D2) : List AV := [.sc (.string d.1), .sc (.string d.2)]
def dv (d : D2) : AV := .agg [.sc (.string d.1), .sc (.string d.2)]
def bD (d : D2) : Blk := ⟨24, 0, 0, false, [.sc (.string d.1), .sc (.string d.2)], .cells⟩
def bE (d : D2) : Blk := ⟨27, 0, 0, false, [.sc (.string d.1), .sc (.string d.2)], .cells⟩
def kp (f : FuncId) (id : Nat) : Option (List Nat) :=
  if f = 3 then if id = 5 then some [0, 3, 5, 20, 21] else none else
  if f = 4 then if id = 5 then some [0, 3, 20, 21] else if id = 13 then some [0, 3, 5, 51, 52] else if id = 20 then some [5, 77, 78] else if id = 23 then some [5, 9, 77, 78, 82, 83] else none else
  if f = 5 then if id = 10 then some [1, 3, 4, 56, 57] else if id = 15 then some [1, 3, 4, 5, 56, 57, 77, 78] else if id = 22 then some [1, 3, 4, 5, 7, 56, 57, 95, 96] else if id = 25 then some [1, 3, 4, 5, 7, 56, 57, 95, 96, 104, 105, 106] else none else
  if f = 6 then if id = 9 then some [1, 3, 7, 8, 9, 67, 68] else none else
  if f = 9 then if id = 2 then some [0, 3, 4, 8, 9] else none else
  if f = 10 then if id = 4 then some [0, 1, 12, 13] else none else
  if f = 11 then if id = 3 then some [0, 3, 6, 7] else none else
  if f = 12 then if id = 3 then some [0, 3, 7, 8, 9] else none else
  if f = 13 then if id = 3 then some [0, 3, 8, 9] else if id = 7 then some [0, 3, 4, 5, 8, 9, 20, 21] else none else
  if f = 14 then if id = 2 then some [0, 3] else none else
  if f = 15 then if id = 4 then some [2, 3, 5] else none else
  if f = 16 then if id = 4 then some [1, 17, 18] else if id = 7 then some [1, 3, 17, 18, 27, 28] else none else
  if f = 17 then if id = 6 then some [1, 3, 4, 5] else if id = 9 then some [1, 3, 4, 5, 35, 36, 37] else if id = 14 then some [1, 3, 4, 5, 8, 35, 36, 37, 59, 60, 61] else none else
  if f = 18 then if id = 5 then some [3, 4, 5, 6, 20, 21, 22] else if id = 13 then some [3, 4, 5, 6, 9, 44, 45, 46] else none else
  if f = 19 then if id = 2 then some [0, 1, 7, 8] else none else
  if f = 20 then if id = 3 then some [1, 5, 9, 10, 11] else none else
  if f = 21 then if id = 2 then some [0, 1, 7, 8] else none else
  if f = 23 then if id = 4 then some [2, 3, 22, 23] else none else
  if f = 27 then if id = 2 then some [0, 3, 7, 8] else none else
  if f = 28 then if id = 5 then some [2, 3, 7, 25, 26] else if id = 11 then some [2, 3, 7, 9, 25, 26, 48, 49] else none else
  if f = 30 then if id = 3 then some [1, 5, 9, 10, 11] else none else
  if f = 32 then if id = 3 then some [3, 11, 12, 13] else none else
  if f = 33 then if id = 4 then some [3, 4, 12, 13, 14] else none else
  if f = 35 then if id = 3 then some [7, 15, 16, 17] else none else
  if f = 40 then if id = 2 then some [0, 3, 7, 8] else none else
  if f = 41 then if id = 2 then some [0, 1, 7, 8] else none else
  if f = 43 then if id = 3 then some [5, 10, 11, 12] else none else
  if f = 45 then if id = 2 then some [1, 9, 10, 11] else if id = 5 then some [1, 5, 9, 10, 11, 16, 17, 18] else none else
  if f = 48 then if id = 3 then some [0, 1, 6, 7, 8] else none else
  if f = 52 then if id = 2 then some [0, 1, 9, 10, 11] else none else
  if f = 53 then if id = 4 then some [0, 3] else if id = 9 then some [0, 3, 4, 5] else none else
  if f = 56 then if id = 11 then some [0, 5, 6, 46, 47, 48] else none else
  if f = 57 then if id = 3 then some [0, 2, 7, 14, 15, 16] else none else
  if f = 59 then if id = 2 then some [0, 1, 7, 8] else none else
  if f = 63 then if id = 4 then some [0, 3] else if id = 9 then some [0, 3, 4, 5] else none else
  if f = 64 then if id = 3 then some [0, 3, 9, 10, 11] else if id = 11 then some [6, 25, 26, 27] else none else
  if f = 65 then if id = 8 then some [3, 20, 21, 22] else none else
  if f = 68 then if id = 2 then some [0, 1, 2, 3, 4, 10, 11] else none else
  if f = 71 then if id = 2 then some [0, 1, 7, 8] else none else
  if f = 73 then if id = 2 then some [0, 1, 2, 3, 8, 9] else none else
  if f = 76 then if id = 1 then some [0, 1, 2, 3, 8] else if id = 4 then some [0, 1, 2, 3, 8, 9] else none else
  if f = 77 then if id = 4 then some [0, 3, 8, 9, 10, 11] else if id = 8 then some [0, 3, 8, 9, 12] else none else
  if f = 78 then if id = 5 then some [0, 1, 8, 9, 10, 11] else none else
  if f = 80 then if id = 2 then some [0, 8, 9] else none else
  if f = 81 then if id = 3 then some [0, 1, 2, 3, 9, 10] else if id = 5 then some [0, 1, 2, 3, 9, 10] else if id = 14 then some [0, 1, 2, 3, 9, 10, 11] else if id = 20 then some [0, 1, 2, 3, 9, 10, 12] else none else
  if f = 82 then if id = 3 then some [0, 1, 4, 11, 12] else if id = 5 then some [0, 1, 4, 11, 12] else none else
  if f = 83 then if id = 3 then some [0, 1, 4, 12, 13] else if id = 5 then some [0, 1, 4, 12, 13] else if id = 13 then some [0, 1, 4, 12, 13] else if id = 15 then some [0, 1, 4, 12, 13] else none else
  if f = 87 then if id = 1 then some [0, 1, 2, 6] else if id = 4 then some [0, 1, 2, 6, 7] else none else
  if f = 88 then if id = 4 then some [0, 6, 7, 8, 9] else if id = 8 then some [0, 6, 7, 10] else none else
  if f = 89 then if id = 5 then some [0, 1, 6, 7, 8, 9] else none else
  if f = 91 then if id = 2 then some [0, 6, 7] else none else
  if f = 92 then if id = 3 then some [0, 1, 2, 7, 8] else if id = 5 then some [0, 1, 2, 7, 8] else if id = 14 then some [0, 1, 2, 7, 8, 9] else if id = 20 then some [0, 1, 2, 7, 8, 10] else none else
  if f = 93 then if id = 3 then some [0, 1, 9, 10] else if id = 5 then some [0, 1, 9, 10] else none else
  if f = 94 then if id = 3 then some [0, 1, 10, 11] else if id = 5 then some [0, 1, 10, 11] else if id = 13 then some [0, 1, 10, 11] else if id = 15 then some [0, 1, 10, 11] else none else
  if f = 95 then if id = 1 then some [0, 2, 3, 4, 10] else none else
  if f = 100 then if id = 1 then some [0, 2, 3, 8] else none else
  none
def md (f : FuncId) : Nat := if f = 12 then 3 else if [3,4,5,6,7,8,9,10,14,15,16,19,20,21,22,23,24,25,26,27,28,29,34,40,41,48,52,58,66,67,69,70,75,84,85,86].contains f then 2 else if [11,13,56,17,32,33,35,42,43,44,57,61,65].contains f then 1 else 0
def cf : Cfg := { prim := fun _ => none, mode := md, use := fun f => f != 6, dyn := fun _ _ => false, keep := kp }
theorem cfdraw {P : Program} {call callD : Fun} {jump : Code → Code → St → Option (AX × St)} {pu : FuncId → Bool} {f : FuncId} {keep : Nat → Option (List Nat)} {n k id : Nat} {ops : Array Oper} {s : St} : acode P call callD jump pu (cf.dyn f) keep n k (.region id ops true) s = (aops P callD n ops ops.toList s).map fun s => (.normal, s) := acode_draw rfl
theorem all_range {p : Nat → Bool} {n : Nat} (h : ∀ j, j < n → p j = true) : (List.range n).all p = true := by simpa using h
theorem all_range_f {p : Nat → Bool} {n m : Nat} (hm : m < n) (h : p m = false) : (List.range n).all p = false := by
  rw [← Bool.not_eq_true, List.all_eq_true]
  intro hh
  have := hh m (by simpa using hm)
  rw [h] at this
  cases this
end Go.Proofs.YtiphnjohbbpkpaaA
