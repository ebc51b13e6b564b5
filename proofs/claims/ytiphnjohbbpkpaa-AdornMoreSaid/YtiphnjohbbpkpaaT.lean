/- A seat's configuration: what is run, how calls are told, what is kept at loops' heads; facts on types. -/
import Derived.Test.YtiphnjohbbpkpaaAvY
import Derived.Test.YtiphnjohbbpkpaaProg
namespace Go.Proofs.YtiphnjohbbpkpaaA
open Go Go.RowKit
set_option linter.all false
set_option linter.unusedSectionVars false
set_option linter.constructorNameAsVariable false
def kp (f : FuncId) (id : Nat) : Option (List Nat) := (bif Nat.ble 61 f then (bif Nat.ble 91 f then (bif Nat.ble 106 f then none else (bif Nat.ble 98 f then (bif Nat.ble 102 f then none else (bif Nat.ble 100 f then (bif Nat.ble 101 f then none else (bif Nat.beq id 1 then some [0, 2, 3, 8] else none)) else none)) else (bif Nat.ble 94 f then (bif Nat.ble 96 f then none else (bif Nat.ble 95 f then (bif Nat.beq id 1 then some [0, 2, 3, 4, 10] else none) else (bif Nat.beq id 3 then some [0, 1, 10, 11] else bif Nat.beq id 5 then some [0, 1, 10, 11] else bif Nat.beq id 13 then some [0, 1, 10, 11] else bif Nat.beq id 15 then some [0, 1, 10, 11] else none))) else (bif Nat.ble 92 f then (bif Nat.ble 93 f then (bif Nat.beq id 3 then some [0, 1, 9, 10] else bif Nat.beq id 5 then some [0, 1, 9, 10] else none) else (bif Nat.beq id 3 then some [0, 1, 2, 7, 8] else bif Nat.beq id 5 then some [0, 1, 2, 7, 8] else bif Nat.beq id 14 then some [0, 1, 2, 7, 8, 9] else bif Nat.beq id 20 then some [0, 1, 2, 7, 8, 10] else none)) else (bif Nat.beq id 2 then some [0, 6, 7] else none))))) else (bif Nat.ble 76 f then (bif Nat.ble 83 f then (bif Nat.ble 87 f then (bif Nat.ble 89 f then (bif Nat.ble 90 f then none else (bif Nat.beq id 5 then some [0, 1, 6, 7, 8, 9] else none)) else (bif Nat.ble 88 f then (bif Nat.beq id 4 then some [0, 6, 7, 8, 9] else bif Nat.beq id 8 then some [0, 6, 7, 10] else none) else (bif Nat.beq id 1 then some [0, 1, 2, 6] else bif Nat.beq id 4 then some [0, 1, 2, 6, 7] else none))) else (bif Nat.ble 85 f then none else (bif Nat.ble 84 f then none else (bif Nat.beq id 3 then some [0, 1, 4, 12, 13] else bif Nat.beq id 5 then some [0, 1, 4, 12, 13] else bif Nat.beq id 13 then some [0, 1, 4, 12, 13] else bif Nat.beq id 15 then some [0, 1, 4, 12, 13] else none)))) else (bif Nat.ble 79 f then (bif Nat.ble 81 f then (bif Nat.ble 82 f then (bif Nat.beq id 3 then some [0, 1, 4, 11, 12] else bif Nat.beq id 5 then some [0, 1, 4, 11, 12] else none) else (bif Nat.beq id 3 then some [0, 1, 2, 3, 9, 10] else bif Nat.beq id 5 then some [0, 1, 2, 3, 9, 10] else bif Nat.beq id 14 then some [0, 1, 2, 3, 9, 10, 11] else bif Nat.beq id 20 then some [0, 1, 2, 3, 9, 10, 12] else none)) else (bif Nat.ble 80 f then (bif Nat.beq id 2 then some [0, 8, 9] else none) else none)) else (bif Nat.ble 77 f then (bif Nat.ble 78 f then (bif Nat.beq id 5 then some [0, 1, 8, 9, 10, 11] else none) else (bif Nat.beq id 4 then some [0, 3, 8, 9, 10, 11] else bif Nat.beq id 8 then some [0, 3, 8, 9, 12] else none)) else (bif Nat.beq id 1 then some [0, 1, 2, 3, 8] else bif Nat.beq id 4 then some [0, 1, 2, 3, 8, 9] else none)))) else (bif Nat.ble 68 f then (bif Nat.ble 72 f then (bif Nat.ble 74 f then none else (bif Nat.ble 73 f then (bif Nat.beq id 2 then some [0, 1, 2, 3, 8, 9] else none) else none)) else (bif Nat.ble 70 f then (bif Nat.ble 71 f then (bif Nat.beq id 2 then some [0, 1, 7, 8] else none) else none) else (bif Nat.ble 69 f then none else (bif Nat.beq id 2 then some [0, 1, 2, 3, 4, 10, 11] else none)))) else (bif Nat.ble 64 f then (bif Nat.ble 66 f then none else (bif Nat.ble 65 f then (bif Nat.beq id 8 then some [3, 20, 21, 22] else none) else (bif Nat.beq id 3 then some [0, 3, 9, 10, 11] else bif Nat.beq id 11 then some [6, 25, 26, 27] else none))) else (bif Nat.ble 62 f then (bif Nat.ble 63 f then (bif Nat.beq id 4 then some [0, 3] else bif Nat.beq id 9 then some [0, 3, 4, 5] else none) else none) else none))))) else (bif Nat.ble 30 f then (bif Nat.ble 45 f then (bif Nat.ble 53 f then (bif Nat.ble 57 f then (bif Nat.ble 59 f then (bif Nat.ble 60 f then none else (bif Nat.beq id 2 then some [0, 1, 7, 8] else none)) else (bif Nat.ble 58 f then none else (bif Nat.beq id 3 then some [0, 2, 7, 14, 15, 16] else none))) else (bif Nat.ble 55 f then (bif Nat.ble 56 f then (bif Nat.beq id 11 then some [0, 5, 6, 46, 47, 48] else none) else none) else (bif Nat.ble 54 f then none else (bif Nat.beq id 4 then some [0, 3] else bif Nat.beq id 9 then some [0, 3, 4, 5] else none)))) else (bif Nat.ble 49 f then (bif Nat.ble 51 f then (bif Nat.ble 52 f then (bif Nat.beq id 2 then some [0, 1, 9, 10, 11] else none) else none) else none) else (bif Nat.ble 47 f then (bif Nat.ble 48 f then (bif Nat.beq id 3 then some [0, 1, 6, 7, 8] else none) else none) else (bif Nat.ble 46 f then none else (bif Nat.beq id 2 then some [1, 9, 10, 11] else bif Nat.beq id 5 then some [1, 5, 9, 10, 11, 16, 17, 18] else none))))) else (bif Nat.ble 37 f then (bif Nat.ble 41 f then (bif Nat.ble 43 f then (bif Nat.ble 44 f then none else (bif Nat.beq id 3 then some [5, 10, 11, 12] else none)) else (bif Nat.ble 42 f then none else (bif Nat.beq id 2 then some [0, 1, 7, 8] else none))) else (bif Nat.ble 39 f then (bif Nat.ble 40 f then (bif Nat.beq id 2 then some [0, 3, 7, 8] else none) else none) else none)) else (bif Nat.ble 33 f then (bif Nat.ble 35 f then (bif Nat.ble 36 f then none else (bif Nat.beq id 3 then some [7, 15, 16, 17] else none)) else (bif Nat.ble 34 f then none else (bif Nat.beq id 4 then some [3, 4, 12, 13, 14] else none))) else (bif Nat.ble 31 f then (bif Nat.ble 32 f then (bif Nat.beq id 3 then some [3, 11, 12, 13] else none) else none) else (bif Nat.beq id 3 then some [1, 5, 9, 10, 11] else none))))) else (bif Nat.ble 15 f then (bif Nat.ble 22 f then (bif Nat.ble 26 f then (bif Nat.ble 28 f then (bif Nat.ble 29 f then none else (bif Nat.beq id 5 then some [2, 3, 7, 25, 26] else bif Nat.beq id 11 then some [2, 3, 7, 9, 25, 26, 48, 49] else none)) else (bif Nat.ble 27 f then (bif Nat.beq id 2 then some [0, 3, 7, 8] else none) else none)) else (bif Nat.ble 24 f then none else (bif Nat.ble 23 f then (bif Nat.beq id 4 then some [2, 3, 22, 23] else none) else none))) else (bif Nat.ble 18 f then (bif Nat.ble 20 f then (bif Nat.ble 21 f then (bif Nat.beq id 2 then some [0, 1, 7, 8] else none) else (bif Nat.beq id 3 then some [1, 5, 9, 10, 11] else none)) else (bif Nat.ble 19 f then (bif Nat.beq id 2 then some [0, 1, 7, 8] else none) else (bif Nat.beq id 5 then some [3, 4, 5, 6, 20, 21, 22] else bif Nat.beq id 13 then some [3, 4, 5, 6, 9, 44, 45, 46] else none))) else (bif Nat.ble 16 f then (bif Nat.ble 17 f then (bif Nat.beq id 6 then some [1, 3, 4, 5] else bif Nat.beq id 9 then some [1, 3, 4, 5, 35, 36, 37] else bif Nat.beq id 14 then some [1, 3, 4, 5, 8, 35, 36, 37, 59, 60, 61] else none) else (bif Nat.beq id 4 then some [1, 17, 18] else bif Nat.beq id 7 then some [1, 3, 17, 18, 27, 28] else none)) else (bif Nat.beq id 4 then some [2, 3, 5] else none)))) else (bif Nat.ble 7 f then (bif Nat.ble 11 f then (bif Nat.ble 13 f then (bif Nat.ble 14 f then (bif Nat.beq id 2 then some [0, 3] else none) else (bif Nat.beq id 3 then some [0, 3, 8, 9] else bif Nat.beq id 7 then some [0, 3, 4, 5, 8, 9, 20, 21] else none)) else (bif Nat.ble 12 f then (bif Nat.beq id 3 then some [0, 3, 7, 8, 9] else none) else (bif Nat.beq id 3 then some [0, 3, 6, 7] else none))) else (bif Nat.ble 9 f then (bif Nat.ble 10 f then (bif Nat.beq id 4 then some [0, 1, 12, 13] else none) else (bif Nat.beq id 2 then some [0, 3, 4, 8, 9] else none)) else none)) else (bif Nat.ble 3 f then (bif Nat.ble 5 f then (bif Nat.ble 6 f then (bif Nat.beq id 9 then some [1, 3, 7, 8, 9, 67, 68] else none) else (bif Nat.beq id 10 then some [1, 3, 4, 56, 57] else bif Nat.beq id 15 then some [1, 3, 4, 5, 56, 57, 77, 78] else bif Nat.beq id 22 then some [1, 3, 4, 5, 7, 56, 57, 95, 96] else bif Nat.beq id 25 then some [1, 3, 4, 5, 7, 56, 57, 95, 96, 104, 105, 106] else none)) else (bif Nat.ble 4 f then (bif Nat.beq id 5 then some [0, 3, 20, 21] else bif Nat.beq id 13 then some [0, 3, 5, 51, 52] else bif Nat.beq id 20 then some [5, 77, 78] else bif Nat.beq id 23 then some [5, 9, 77, 78, 82, 83] else none) else (bif Nat.beq id 5 then some [0, 3, 5, 20, 21] else none))) else none)))))
def fzt (f : FuncId) : Option (List Nat) := (bif Nat.ble 61 f then (bif Nat.ble 91 f then none else (bif Nat.ble 76 f then (bif Nat.ble 83 f then (bif Nat.ble 87 f then (bif Nat.ble 89 f then (bif Nat.ble 90 f then none else (some [7])) else none) else none) else (bif Nat.ble 79 f then none else (bif Nat.ble 77 f then (bif Nat.ble 78 f then (some [9]) else none) else none))) else (bif Nat.ble 68 f then none else (bif Nat.ble 64 f then (bif Nat.ble 66 f then none else (bif Nat.ble 65 f then (some [1, 5, 15, 32]) else none)) else (bif Nat.ble 62 f then none else (some [5])))))) else (bif Nat.ble 30 f then (bif Nat.ble 45 f then (bif Nat.ble 53 f then (bif Nat.ble 57 f then (bif Nat.ble 59 f then none else (bif Nat.ble 58 f then none else (some [9, 45]))) else (bif Nat.ble 55 f then (bif Nat.ble 56 f then (some [23, 62]) else (some [1])) else none)) else (bif Nat.ble 49 f then (bif Nat.ble 51 f then (bif Nat.ble 52 f then none else (some [2, 3])) else (bif Nat.ble 50 f then none else (some [5, 19]))) else (bif Nat.ble 47 f then none else (bif Nat.ble 46 f then (some [3, 7]) else (some [2, 5]))))) else (bif Nat.ble 37 f then (bif Nat.ble 41 f then (bif Nat.ble 43 f then (bif Nat.ble 44 f then (some [1, 13]) else (some [7, 22])) else (bif Nat.ble 42 f then (some [1]) else none)) else (bif Nat.ble 39 f then (bif Nat.ble 40 f then (some [3]) else none) else none)) else (bif Nat.ble 33 f then (bif Nat.ble 35 f then (bif Nat.ble 36 f then none else (some [25])) else (bif Nat.ble 34 f then (some [1]) else (some [1, 3, 6, 7]))) else (bif Nat.ble 31 f then (bif Nat.ble 32 f then (some [1, 5, 21]) else (some [2])) else (some [2, 30]))))) else (bif Nat.ble 15 f then (bif Nat.ble 22 f then (bif Nat.ble 26 f then (bif Nat.ble 28 f then (bif Nat.ble 29 f then none else (some [3, 9])) else (bif Nat.ble 27 f then (some [3]) else none)) else (bif Nat.ble 24 f then (bif Nat.ble 25 f then (some [3]) else (some [2])) else (bif Nat.ble 23 f then (some [2, 3]) else (some [2])))) else (bif Nat.ble 18 f then (bif Nat.ble 20 f then (bif Nat.ble 21 f then none else (some [2, 7])) else (bif Nat.ble 19 f then none else (some [1, 3, 8, 68]))) else (bif Nat.ble 16 f then (bif Nat.ble 17 f then (some [1, 7, 10, 90]) else (some [1])) else (some [2, 3])))) else (bif Nat.ble 7 f then (bif Nat.ble 11 f then (bif Nat.ble 13 f then (bif Nat.ble 14 f then none else (some [55])) else (bif Nat.ble 12 f then (some [5, 26]) else (some [15]))) else (bif Nat.ble 9 f then (bif Nat.ble 10 f then none else (some [3])) else (bif Nat.ble 8 f then (some [3]) else (some [3, 4, 6, 13, 17, 20, 23, 25])))) else (bif Nat.ble 3 f then (bif Nat.ble 5 f then (bif Nat.ble 6 f then (some [3, 14, 16, 18, 20, 125, 132, 139, 146]) else (some [1, 10])) else (bif Nat.ble 4 f then (some [7, 45]) else (some [3, 7, 9, 36]))) else none)))))
def md (f : FuncId) : Nat := (bif Nat.ble 61 f then (bif Nat.ble 91 f then (bif Nat.ble 106 f then (bif Nat.ble 114 f then (bif Nat.ble 118 f then (bif Nat.ble 120 f then (bif Nat.ble 121 f then 3 else 0) else (bif Nat.ble 119 f then 0 else 3)) else (bif Nat.ble 116 f then (bif Nat.ble 117 f then 0 else 0) else (bif Nat.ble 115 f then 0 else 0))) else (bif Nat.ble 110 f then (bif Nat.ble 112 f then (bif Nat.ble 113 f then 0 else 0) else (bif Nat.ble 111 f then 3 else 0)) else (bif Nat.ble 108 f then (bif Nat.ble 109 f then 3 else 0) else (bif Nat.ble 107 f then 3 else 0)))) else (bif Nat.ble 98 f then (bif Nat.ble 102 f then 3 else (bif Nat.ble 100 f then (bif Nat.ble 101 f then 3 else 0) else 3)) else (bif Nat.ble 94 f then (bif Nat.ble 96 f then (bif Nat.ble 97 f then 0 else 3) else (bif Nat.ble 95 f then 0 else 3)) else (bif Nat.ble 92 f then 3 else 0)))) else (bif Nat.ble 76 f then (bif Nat.ble 83 f then (bif Nat.ble 87 f then (bif Nat.ble 89 f then (bif Nat.ble 90 f then 3 else 0) else (bif Nat.ble 88 f then 0 else 0)) else 3) else (bif Nat.ble 79 f then (bif Nat.ble 81 f then 3 else (bif Nat.ble 80 f then 0 else 3)) else (bif Nat.ble 77 f then (bif Nat.ble 78 f then 0 else 0) else 0))) else (bif Nat.ble 68 f then (bif Nat.ble 72 f then (bif Nat.ble 74 f then (bif Nat.ble 75 f then 3 else 0) else (bif Nat.ble 73 f then 0 else 0)) else (bif Nat.ble 70 f then 3 else (bif Nat.ble 69 f then 3 else 0))) else (bif Nat.ble 64 f then 3 else (bif Nat.ble 62 f then (bif Nat.ble 63 f then 0 else 0) else 0))))) else (bif Nat.ble 30 f then (bif Nat.ble 45 f then (bif Nat.ble 53 f then (bif Nat.ble 57 f then (bif Nat.ble 59 f then (bif Nat.ble 60 f then 0 else 0) else (bif Nat.ble 58 f then 3 else 1)) else (bif Nat.ble 55 f then 3 else (bif Nat.ble 54 f then 3 else 0))) else (bif Nat.ble 49 f then (bif Nat.ble 51 f then 3 else (bif Nat.ble 50 f then 0 else 0)) else (bif Nat.ble 47 f then (bif Nat.ble 48 f then 3 else 0) else (bif Nat.ble 46 f then 0 else 0)))) else (bif Nat.ble 37 f then (bif Nat.ble 41 f then (bif Nat.ble 43 f then (bif Nat.ble 44 f then 1 else 0) else 3) else (bif Nat.ble 39 f then (bif Nat.ble 40 f then 3 else 0) else (bif Nat.ble 38 f then 0 else 0))) else (bif Nat.ble 33 f then (bif Nat.ble 35 f then (bif Nat.ble 36 f then 0 else 3) else 3) else (bif Nat.ble 31 f then 3 else 1)))) else (bif Nat.ble 15 f then 3 else (bif Nat.ble 7 f then 3 else (bif Nat.ble 3 f then 3 else (bif Nat.ble 1 f then (bif Nat.ble 2 f then 0 else 0) else 0))))))
def dy (f : FuncId) (id : Nat) : Bool := (f == 6 && id == 4) || (f == 6 && id == 15) || false
def us (f : FuncId) : Bool := true
def cf0 : Cfg := { prim := fun _ => none, mode := md, use := us, dyn := dy, keep := fun f id => bif Nat.beq id 1000000 then fzt f else kp f id }
def cloner (f : FuncId) : Bool := Nat.beq f 61
noncomputable def cf : Cfg := { prim := fun f => if cloner f = true then some (clonePrim Try.prog cf0 f) else none, mode := md, use := us, dyn := dy, keep := fun f id => bif Nat.beq id 1000000 then fzt f else kp f id }
theorem cf_dyn {f id : Nat} : cf.dyn f id = dy f id := rfl
variable {H : List Blk} {k : Nat} {strict : Bool} {caps args : List AV}
theorem fz2 : (cf.keep 2 1000000).getD [] = [] := rfl
theorem dy2 {id : Nat} : dy 2 id = false := rfl
theorem cl2 : callR Try.prog (acall cf.mode strict (arun Try.prog cf k)) H (.fn 2 caps) args = arun Try.prog cf k 2 (args ++ caps) H := callR_0 rfl (noExt_of Try.func2 rfl)
theorem fz3 : (cf.keep 3 1000000).getD [] = [3, 7, 9, 36] := rfl
theorem dy3 {id : Nat} : dy 3 id = false := rfl
theorem cl3 : callR Try.prog (acall cf.mode strict (arun Try.prog cf k)) H (.fn 3 caps) args = ((amap (rb H depth) (args ++ caps)).bind (val Try.prog cf k 3)).map fun y => (y, H) := callR_3 rfl (noExt_of Try.func3 rfl)
theorem fz4 : (cf.keep 4 1000000).getD [] = [7, 45] := rfl
theorem dy4 {id : Nat} : dy 4 id = false := rfl
theorem cl4 : callR Try.prog (acall cf.mode strict (arun Try.prog cf k)) H (.fn 4 caps) args = ((amap (rb H depth) (args ++ caps)).bind (val Try.prog cf k 4)).map fun y => (y, H) := callR_3 rfl (noExt_of Try.func4 rfl)
theorem fz5 : (cf.keep 5 1000000).getD [] = [1, 10] := rfl
theorem dy5 {id : Nat} : dy 5 id = false := rfl
theorem cl5 : callR Try.prog (acall cf.mode strict (arun Try.prog cf k)) H (.fn 5 caps) args = ((amap (rb H depth) (args ++ caps)).bind (val Try.prog cf k 5)).map fun y => (y, H) := callR_3 rfl (noExt_of Try.func5 rfl)
theorem fz6 : (cf.keep 6 1000000).getD [] = [3, 14, 16, 18, 20, 125, 132, 139, 146] := rfl
theorem dy6 {id : Nat} : dy 6 id = (id == 4 || id == 15) := by unfold dy; simp
theorem cl6 : callR Try.prog (acall cf.mode strict (arun Try.prog cf k)) H (.fn 6 caps) args = ((amap (rb H depth) (args ++ caps)).bind (val Try.prog cf k 6)).map fun y => (y, H) := callR_3 rfl (noExt_of Try.func6 rfl)
theorem fz7 : (cf.keep 7 1000000).getD [] = [3, 4, 6, 13, 17, 20, 23, 25] := rfl
theorem dy7 {id : Nat} : dy 7 id = false := rfl
theorem cl7 : callR Try.prog (acall cf.mode strict (arun Try.prog cf k)) H (.fn 7 caps) args = ((amap (rb H depth) (args ++ caps)).bind (val Try.prog cf k 7)).map fun y => (y, H) := callR_3 rfl (noExt_of Try.func7 rfl)
theorem fz8 : (cf.keep 8 1000000).getD [] = [3] := rfl
theorem dy8 {id : Nat} : dy 8 id = false := rfl
theorem cl8 : callR Try.prog (acall cf.mode strict (arun Try.prog cf k)) H (.fn 8 caps) args = ((amap (rb H depth) (args ++ caps)).bind (val Try.prog cf k 8)).map fun y => (y, H) := callR_3 rfl (noExt_of Try.func8 rfl)
theorem fz9 : (cf.keep 9 1000000).getD [] = [3] := rfl
theorem dy9 {id : Nat} : dy 9 id = false := rfl
theorem cl9 : callR Try.prog (acall cf.mode strict (arun Try.prog cf k)) H (.fn 9 caps) args = ((amap (rb H depth) (args ++ caps)).bind (val Try.prog cf k 9)).map fun y => (y, H) := callR_3 rfl (noExt_of Try.func9 rfl)
theorem fz10 : (cf.keep 10 1000000).getD [] = [] := rfl
theorem dy10 {id : Nat} : dy 10 id = false := rfl
theorem cl10 : callR Try.prog (acall cf.mode strict (arun Try.prog cf k)) H (.fn 10 caps) args = ((amap (rb H depth) (args ++ caps)).bind (val Try.prog cf k 10)).map fun y => (y, H) := callR_3 rfl (noExt_of Try.func10 rfl)
theorem fz11 : (cf.keep 11 1000000).getD [] = [15] := rfl
theorem dy11 {id : Nat} : dy 11 id = false := rfl
theorem cl11 : callR Try.prog (acall cf.mode strict (arun Try.prog cf k)) H (.fn 11 caps) args = ((amap (rb H depth) (args ++ caps)).bind (val Try.prog cf k 11)).map fun y => (y, H) := callR_3 rfl (noExt_of Try.func11 rfl)
theorem fz12 : (cf.keep 12 1000000).getD [] = [5, 26] := rfl
theorem dy12 {id : Nat} : dy 12 id = false := rfl
theorem cl12 : callR Try.prog (acall cf.mode strict (arun Try.prog cf k)) H (.fn 12 caps) args = ((amap (rb H depth) (args ++ caps)).bind (val Try.prog cf k 12)).map fun y => (y, H) := callR_3 rfl (noExt_of Try.func12 rfl)
theorem fz13 : (cf.keep 13 1000000).getD [] = [55] := rfl
theorem dy13 {id : Nat} : dy 13 id = false := rfl
theorem cl13 : callR Try.prog (acall cf.mode strict (arun Try.prog cf k)) H (.fn 13 caps) args = ((amap (rb H depth) (args ++ caps)).bind (val Try.prog cf k 13)).map fun y => (y, H) := callR_3 rfl (noExt_of Try.func13 rfl)
theorem fz14 : (cf.keep 14 1000000).getD [] = [] := rfl
theorem dy14 {id : Nat} : dy 14 id = false := rfl
theorem cl14 : callR Try.prog (acall cf.mode strict (arun Try.prog cf k)) H (.fn 14 caps) args = ((amap (rb H depth) (args ++ caps)).bind (val Try.prog cf k 14)).map fun y => (y, H) := callR_3 rfl (noExt_of Try.func14 rfl)
theorem fz15 : (cf.keep 15 1000000).getD [] = [2, 3] := rfl
theorem dy15 {id : Nat} : dy 15 id = false := rfl
theorem cl15 : callR Try.prog (acall cf.mode strict (arun Try.prog cf k)) H (.fn 15 caps) args = ((amap (rb H depth) (args ++ caps)).bind (val Try.prog cf k 15)).map fun y => (y, H) := callR_3 rfl (noExt_of Try.func15 rfl)
theorem fz16 : (cf.keep 16 1000000).getD [] = [1] := rfl
theorem dy16 {id : Nat} : dy 16 id = false := rfl
theorem cl16 : callR Try.prog (acall cf.mode strict (arun Try.prog cf k)) H (.fn 16 caps) args = ((amap (rb H depth) (args ++ caps)).bind (val Try.prog cf k 16)).map fun y => (y, H) := callR_3 rfl (noExt_of Try.func16 rfl)
theorem fz17 : (cf.keep 17 1000000).getD [] = [1, 7, 10, 90] := rfl
theorem dy17 {id : Nat} : dy 17 id = false := rfl
theorem cl17 : callR Try.prog (acall cf.mode strict (arun Try.prog cf k)) H (.fn 17 caps) args = ((amap (rb H depth) (args ++ caps)).bind (val Try.prog cf k 17)).map fun y => (y, H) := callR_3 rfl (noExt_of Try.func17 rfl)
theorem fz18 : (cf.keep 18 1000000).getD [] = [1, 3, 8, 68] := rfl
theorem dy18 {id : Nat} : dy 18 id = false := rfl
theorem cl18 : callR Try.prog (acall cf.mode strict (arun Try.prog cf k)) H (.fn 18 caps) args = ((amap (rb H depth) (args ++ caps)).bind (val Try.prog cf k 18)).map fun y => (y, H) := callR_3 rfl (noExt_of Try.func18 rfl)
theorem fz19 : (cf.keep 19 1000000).getD [] = [] := rfl
theorem dy19 {id : Nat} : dy 19 id = false := rfl
theorem cl19 : callR Try.prog (acall cf.mode strict (arun Try.prog cf k)) H (.fn 19 caps) args = ((amap (rb H depth) (args ++ caps)).bind (val Try.prog cf k 19)).map fun y => (y, H) := callR_3 rfl (noExt_of Try.func19 rfl)
theorem fz20 : (cf.keep 20 1000000).getD [] = [2, 7] := rfl
theorem dy20 {id : Nat} : dy 20 id = false := rfl
theorem cl20 : callR Try.prog (acall cf.mode strict (arun Try.prog cf k)) H (.fn 20 caps) args = ((amap (rb H depth) (args ++ caps)).bind (val Try.prog cf k 20)).map fun y => (y, H) := callR_3 rfl (noExt_of Try.func20 rfl)
theorem fz21 : (cf.keep 21 1000000).getD [] = [] := rfl
theorem dy21 {id : Nat} : dy 21 id = false := rfl
theorem cl21 : callR Try.prog (acall cf.mode strict (arun Try.prog cf k)) H (.fn 21 caps) args = ((amap (rb H depth) (args ++ caps)).bind (val Try.prog cf k 21)).map fun y => (y, H) := callR_3 rfl (noExt_of Try.func21 rfl)
theorem fz22 : (cf.keep 22 1000000).getD [] = [2] := rfl
theorem dy22 {id : Nat} : dy 22 id = false := rfl
theorem cl22 : callR Try.prog (acall cf.mode strict (arun Try.prog cf k)) H (.fn 22 caps) args = ((amap (rb H depth) (args ++ caps)).bind (val Try.prog cf k 22)).map fun y => (y, H) := callR_3 rfl (noExt_of Try.func22 rfl)
theorem fz23 : (cf.keep 23 1000000).getD [] = [2, 3] := rfl
theorem dy23 {id : Nat} : dy 23 id = false := rfl
theorem cl23 : callR Try.prog (acall cf.mode strict (arun Try.prog cf k)) H (.fn 23 caps) args = ((amap (rb H depth) (args ++ caps)).bind (val Try.prog cf k 23)).map fun y => (y, H) := callR_3 rfl (noExt_of Try.func23 rfl)
theorem fz24 : (cf.keep 24 1000000).getD [] = [2] := rfl
theorem dy24 {id : Nat} : dy 24 id = false := rfl
theorem cl24 : callR Try.prog (acall cf.mode strict (arun Try.prog cf k)) H (.fn 24 caps) args = ((amap (rb H depth) (args ++ caps)).bind (val Try.prog cf k 24)).map fun y => (y, H) := callR_3 rfl (noExt_of Try.func24 rfl)
theorem fz25 : (cf.keep 25 1000000).getD [] = [3] := rfl
theorem dy25 {id : Nat} : dy 25 id = false := rfl
theorem cl25 : callR Try.prog (acall cf.mode strict (arun Try.prog cf k)) H (.fn 25 caps) args = ((amap (rb H depth) (args ++ caps)).bind (val Try.prog cf k 25)).map fun y => (y, H) := callR_3 rfl (noExt_of Try.func25 rfl)
theorem fz26 : (cf.keep 26 1000000).getD [] = [] := rfl
theorem dy26 {id : Nat} : dy 26 id = false := rfl
theorem cl26 : callR Try.prog (acall cf.mode strict (arun Try.prog cf k)) H (.fn 26 caps) args = ((amap (rb H depth) (args ++ caps)).bind (val Try.prog cf k 26)).map fun y => (y, H) := callR_3 rfl (noExt_of Try.func26 rfl)
theorem fz27 : (cf.keep 27 1000000).getD [] = [3] := rfl
theorem dy27 {id : Nat} : dy 27 id = false := rfl
theorem cl27 : callR Try.prog (acall cf.mode strict (arun Try.prog cf k)) H (.fn 27 caps) args = ((amap (rb H depth) (args ++ caps)).bind (val Try.prog cf k 27)).map fun y => (y, H) := callR_3 rfl (noExt_of Try.func27 rfl)
theorem fz28 : (cf.keep 28 1000000).getD [] = [3, 9] := rfl
theorem dy28 {id : Nat} : dy 28 id = false := rfl
theorem cl28 : callR Try.prog (acall cf.mode strict (arun Try.prog cf k)) H (.fn 28 caps) args = ((amap (rb H depth) (args ++ caps)).bind (val Try.prog cf k 28)).map fun y => (y, H) := callR_3 rfl (noExt_of Try.func28 rfl)
theorem fz29 : (cf.keep 29 1000000).getD [] = [] := rfl
theorem dy29 {id : Nat} : dy 29 id = false := rfl
theorem cl29 : callR Try.prog (acall cf.mode strict (arun Try.prog cf k)) H (.fn 29 caps) args = ((amap (rb H depth) (args ++ caps)).bind (val Try.prog cf k 29)).map fun y => (y, H) := callR_3 rfl (noExt_of Try.func29 rfl)
theorem fz30 : (cf.keep 30 1000000).getD [] = [2, 30] := rfl
theorem dy30 {id : Nat} : dy 30 id = false := rfl
theorem cl30 : callR Try.prog (acall cf.mode strict (arun Try.prog cf k)) H (.fn 30 caps) args = if (args ++ caps).all (pv depth) = true then ((amap (rb H depth) (args ++ caps)).bind (valD Try.prog cf k 30)).map (fun y => (y, H)) else none := callR_1 rfl (noExt_of Try.func30 rfl)
theorem fz31 : (cf.keep 31 1000000).getD [] = [2] := rfl
theorem dy31 {id : Nat} : dy 31 id = false := rfl
theorem cl31 : callR Try.prog (acall cf.mode strict (arun Try.prog cf k)) H (.fn 31 caps) args = ((amap (rb H depth) (args ++ caps)).bind (val Try.prog cf k 31)).map fun y => (y, H) := callR_3 rfl (noExt_of Try.func31 rfl)
theorem fz32 : (cf.keep 32 1000000).getD [] = [1, 5, 21] := rfl
theorem dy32 {id : Nat} : dy 32 id = false := rfl
theorem cl32 : callR Try.prog (acall cf.mode strict (arun Try.prog cf k)) H (.fn 32 caps) args = ((amap (rb H depth) (args ++ caps)).bind (val Try.prog cf k 32)).map fun y => (y, H) := callR_3 rfl (noExt_of Try.func32 rfl)
theorem fz33 : (cf.keep 33 1000000).getD [] = [1, 3, 6, 7] := rfl
theorem dy33 {id : Nat} : dy 33 id = false := rfl
theorem cl33 : callR Try.prog (acall cf.mode strict (arun Try.prog cf k)) H (.fn 33 caps) args = ((amap (rb H depth) (args ++ caps)).bind (val Try.prog cf k 33)).map fun y => (y, H) := callR_3 rfl (noExt_of Try.func33 rfl)
theorem fz34 : (cf.keep 34 1000000).getD [] = [1] := rfl
theorem dy34 {id : Nat} : dy 34 id = false := rfl
theorem cl34 : callR Try.prog (acall cf.mode strict (arun Try.prog cf k)) H (.fn 34 caps) args = ((amap (rb H depth) (args ++ caps)).bind (val Try.prog cf k 34)).map fun y => (y, H) := callR_3 rfl (noExt_of Try.func34 rfl)
theorem fz35 : (cf.keep 35 1000000).getD [] = [25] := rfl
theorem dy35 {id : Nat} : dy 35 id = false := rfl
theorem cl35 : callR Try.prog (acall cf.mode strict (arun Try.prog cf k)) H (.fn 35 caps) args = ((amap (rb H depth) (args ++ caps)).bind (val Try.prog cf k 35)).map fun y => (y, H) := callR_3 rfl (noExt_of Try.func35 rfl)
theorem fz36 : (cf.keep 36 1000000).getD [] = [] := rfl
theorem dy36 {id : Nat} : dy 36 id = false := rfl
theorem cl36 : callR Try.prog (acall cf.mode strict (arun Try.prog cf k)) H (.fn 36 caps) args = arun Try.prog cf k 36 (args ++ caps) H := callR_0 rfl (noExt_of Try.func36 rfl)
theorem fz37 : (cf.keep 37 1000000).getD [] = [] := rfl
theorem dy37 {id : Nat} : dy 37 id = false := rfl
theorem cl37 : callR Try.prog (acall cf.mode strict (arun Try.prog cf k)) H (.fn 37 caps) args = arun Try.prog cf k 37 (args ++ caps) H := callR_0 rfl (noExt_of Try.func37 rfl)
theorem fz38 : (cf.keep 38 1000000).getD [] = [] := rfl
theorem dy38 {id : Nat} : dy 38 id = false := rfl
theorem cl38 : callR Try.prog (acall cf.mode strict (arun Try.prog cf k)) H (.fn 38 caps) args = arun Try.prog cf k 38 (args ++ caps) H := callR_0 rfl (noExt_of Try.func38 rfl)
theorem fz39 : (cf.keep 39 1000000).getD [] = [] := rfl
theorem dy39 {id : Nat} : dy 39 id = false := rfl
theorem cl39 : callR Try.prog (acall cf.mode strict (arun Try.prog cf k)) H (.fn 39 caps) args = arun Try.prog cf k 39 (args ++ caps) H := callR_0 rfl (noExt_of Try.func39 rfl)
theorem fz40 : (cf.keep 40 1000000).getD [] = [3] := rfl
theorem dy40 {id : Nat} : dy 40 id = false := rfl
theorem cl40 : callR Try.prog (acall cf.mode strict (arun Try.prog cf k)) H (.fn 40 caps) args = ((amap (rb H depth) (args ++ caps)).bind (val Try.prog cf k 40)).map fun y => (y, H) := callR_3 rfl (noExt_of Try.func40 rfl)
theorem fz41 : (cf.keep 41 1000000).getD [] = [] := rfl
theorem dy41 {id : Nat} : dy 41 id = false := rfl
theorem cl41 : callR Try.prog (acall cf.mode strict (arun Try.prog cf k)) H (.fn 41 caps) args = ((amap (rb H depth) (args ++ caps)).bind (val Try.prog cf k 41)).map fun y => (y, H) := callR_3 rfl (noExt_of Try.func41 rfl)
theorem fz42 : (cf.keep 42 1000000).getD [] = [1] := rfl
theorem dy42 {id : Nat} : dy 42 id = false := rfl
theorem cl42 : callR Try.prog (acall cf.mode strict (arun Try.prog cf k)) H (.fn 42 caps) args = ((amap (rb H depth) (args ++ caps)).bind (val Try.prog cf k 42)).map fun y => (y, H) := callR_3 rfl (noExt_of Try.func42 rfl)
theorem fz43 : (cf.keep 43 1000000).getD [] = [7, 22] := rfl
theorem dy43 {id : Nat} : dy 43 id = false := rfl
theorem cl43 : callR Try.prog (acall cf.mode strict (arun Try.prog cf k)) H (.fn 43 caps) args = arun Try.prog cf k 43 (args ++ caps) H := callR_0 rfl (noExt_of Try.func43 rfl)
theorem fz44 : (cf.keep 44 1000000).getD [] = [1, 13] := rfl
theorem dy44 {id : Nat} : dy 44 id = false := rfl
theorem cl44 : callR Try.prog (acall cf.mode strict (arun Try.prog cf k)) H (.fn 44 caps) args = if (args ++ caps).all (pv depth) = true then ((amap (rb H depth) (args ++ caps)).bind (valD Try.prog cf k 44)).map (fun y => (y, H)) else none := callR_1 rfl (noExt_of Try.func44 rfl)
theorem fz45 : (cf.keep 45 1000000).getD [] = [2, 5] := rfl
theorem dy45 {id : Nat} : dy 45 id = false := rfl
theorem cl45 : callR Try.prog (acall cf.mode strict (arun Try.prog cf k)) H (.fn 45 caps) args = arun Try.prog cf k 45 (args ++ caps) H := callR_0 rfl (noExt_of Try.func45 rfl)
theorem fz46 : (cf.keep 46 1000000).getD [] = [3, 7] := rfl
theorem dy46 {id : Nat} : dy 46 id = false := rfl
theorem cl46 : callR Try.prog (acall cf.mode strict (arun Try.prog cf k)) H (.fn 46 caps) args = arun Try.prog cf k 46 (args ++ caps) H := callR_0 rfl (noExt_of Try.func46 rfl)
theorem fz47 : (cf.keep 47 1000000).getD [] = [] := rfl
theorem dy47 {id : Nat} : dy 47 id = false := rfl
theorem cl47 : callR Try.prog (acall cf.mode strict (arun Try.prog cf k)) H (.fn 47 caps) args = arun Try.prog cf k 47 (args ++ caps) H := callR_0 rfl (noExt_of Try.func47 rfl)
theorem fz48 : (cf.keep 48 1000000).getD [] = [] := rfl
theorem dy48 {id : Nat} : dy 48 id = false := rfl
theorem cl48 : callR Try.prog (acall cf.mode strict (arun Try.prog cf k)) H (.fn 48 caps) args = ((amap (rb H depth) (args ++ caps)).bind (val Try.prog cf k 48)).map fun y => (y, H) := callR_3 rfl (noExt_of Try.func48 rfl)
theorem fz49 : (cf.keep 49 1000000).getD [] = [5, 19] := rfl
theorem dy49 {id : Nat} : dy 49 id = false := rfl
theorem cl49 : callR Try.prog (acall cf.mode strict (arun Try.prog cf k)) H (.fn 49 caps) args = arun Try.prog cf k 49 (args ++ caps) H := callR_0 rfl (noExt_of Try.func49 rfl)
theorem fz50 : (cf.keep 50 1000000).getD [] = [] := rfl
theorem dy50 {id : Nat} : dy 50 id = false := rfl
theorem cl50 : callR Try.prog (acall cf.mode strict (arun Try.prog cf k)) H (.fn 50 caps) args = arun Try.prog cf k 50 (args ++ caps) H := callR_0 rfl (noExt_of Try.func50 rfl)
theorem fz51 : (cf.keep 51 1000000).getD [] = [2, 3] := rfl
theorem dy51 {id : Nat} : dy 51 id = false := rfl
theorem cl51 : callR Try.prog (acall cf.mode strict (arun Try.prog cf k)) H (.fn 51 caps) args = ((amap (rb H depth) (args ++ caps)).bind (val Try.prog cf k 51)).map fun y => (y, H) := callR_3 rfl (noExt_of Try.func51 rfl)
theorem fz52 : (cf.keep 52 1000000).getD [] = [] := rfl
theorem dy52 {id : Nat} : dy 52 id = false := rfl
theorem cl52 : callR Try.prog (acall cf.mode strict (arun Try.prog cf k)) H (.fn 52 caps) args = ((amap (rb H depth) (args ++ caps)).bind (val Try.prog cf k 52)).map fun y => (y, H) := callR_3 rfl (noExt_of Try.func52 rfl)
theorem fz53 : (cf.keep 53 1000000).getD [] = [] := rfl
theorem dy53 {id : Nat} : dy 53 id = false := rfl
theorem cl53 : callR Try.prog (acall cf.mode strict (arun Try.prog cf k)) H (.fn 53 caps) args = arun Try.prog cf k 53 (args ++ caps) H := callR_0 rfl (noExt_of Try.func53 rfl)
theorem fz54 : (cf.keep 54 1000000).getD [] = [] := rfl
theorem dy54 {id : Nat} : dy 54 id = false := rfl
theorem cl54 : callR Try.prog (acall cf.mode strict (arun Try.prog cf k)) H (.fn 54 caps) args = ((amap (rb H depth) (args ++ caps)).bind (val Try.prog cf k 54)).map fun y => (y, H) := callR_3 rfl (noExt_of Try.func54 rfl)
theorem fz55 : (cf.keep 55 1000000).getD [] = [1] := rfl
theorem dy55 {id : Nat} : dy 55 id = false := rfl
theorem cl55 : callR Try.prog (acall cf.mode strict (arun Try.prog cf k)) H (.fn 55 caps) args = ((amap (rb H depth) (args ++ caps)).bind (val Try.prog cf k 55)).map fun y => (y, H) := callR_3 rfl (noExt_of Try.func55 rfl)
theorem fz56 : (cf.keep 56 1000000).getD [] = [23, 62] := rfl
theorem dy56 {id : Nat} : dy 56 id = false := rfl
theorem cl56 : callR Try.prog (acall cf.mode strict (arun Try.prog cf k)) H (.fn 56 caps) args = ((amap (rb H depth) (args ++ caps)).bind (val Try.prog cf k 56)).map fun y => (y, H) := callR_3 rfl (noExt_of Try.func56 rfl)
theorem fz57 : (cf.keep 57 1000000).getD [] = [9, 45] := rfl
theorem dy57 {id : Nat} : dy 57 id = false := rfl
theorem cl57 : callR Try.prog (acall cf.mode strict (arun Try.prog cf k)) H (.fn 57 caps) args = if (args ++ caps).all (pv depth) = true then ((amap (rb H depth) (args ++ caps)).bind (valD Try.prog cf k 57)).map (fun y => (y, H)) else none := callR_1 rfl (noExt_of Try.func57 rfl)
theorem fz58 : (cf.keep 58 1000000).getD [] = [] := rfl
theorem dy58 {id : Nat} : dy 58 id = false := rfl
theorem cl58 : callR Try.prog (acall cf.mode strict (arun Try.prog cf k)) H (.fn 58 caps) args = ((amap (rb H depth) (args ++ caps)).bind (val Try.prog cf k 58)).map fun y => (y, H) := callR_3 rfl (noExt_of Try.func58 rfl)
theorem fz59 : (cf.keep 59 1000000).getD [] = [] := rfl
theorem dy59 {id : Nat} : dy 59 id = false := rfl
theorem cl59 : callR Try.prog (acall cf.mode strict (arun Try.prog cf k)) H (.fn 59 caps) args = arun Try.prog cf k 59 (args ++ caps) H := callR_0 rfl (noExt_of Try.func59 rfl)
theorem fz60 : (cf.keep 60 1000000).getD [] = [] := rfl
theorem dy60 {id : Nat} : dy 60 id = false := rfl
theorem cl60 : callR Try.prog (acall cf.mode strict (arun Try.prog cf k)) H (.fn 60 caps) args = arun Try.prog cf k 60 (args ++ caps) H := callR_0 rfl (noExt_of Try.func60 rfl)
theorem fz61 : (cf.keep 61 1000000).getD [] = [5] := rfl
theorem fz0_61 : (cf0.keep 61 1000000).getD [] = [5] := rfl
theorem dy61 {id : Nat} : dy 61 id = false := rfl
theorem cl61 : callR Try.prog (acall cf.mode strict (arun Try.prog cf k)) H (.fn 61 caps) args = arun Try.prog cf k 61 (args ++ caps) H := callR_0 rfl (noExt_of Try.func61 rfl)
theorem fz62 : (cf.keep 62 1000000).getD [] = [] := rfl
theorem dy62 {id : Nat} : dy 62 id = false := rfl
theorem cl62 : callR Try.prog (acall cf.mode strict (arun Try.prog cf k)) H (.fn 62 caps) args = arun Try.prog cf k 62 (args ++ caps) H := callR_0 rfl (noExt_of Try.func62 rfl)
theorem fz63 : (cf.keep 63 1000000).getD [] = [] := rfl
theorem dy63 {id : Nat} : dy 63 id = false := rfl
theorem cl63 : callR Try.prog (acall cf.mode strict (arun Try.prog cf k)) H (.fn 63 caps) args = arun Try.prog cf k 63 (args ++ caps) H := callR_0 rfl (noExt_of Try.func63 rfl)
theorem fz64 : (cf.keep 64 1000000).getD [] = [] := rfl
theorem dy64 {id : Nat} : dy 64 id = false := rfl
theorem cl64 : callR Try.prog (acall cf.mode strict (arun Try.prog cf k)) H (.fn 64 caps) args = ((amap (rb H depth) (args ++ caps)).bind (val Try.prog cf k 64)).map fun y => (y, H) := callR_3 rfl (noExt_of Try.func64 rfl)
theorem fz65 : (cf.keep 65 1000000).getD [] = [1, 5, 15, 32] := rfl
theorem dy65 {id : Nat} : dy 65 id = false := rfl
theorem cl65 : callR Try.prog (acall cf.mode strict (arun Try.prog cf k)) H (.fn 65 caps) args = ((amap (rb H depth) (args ++ caps)).bind (val Try.prog cf k 65)).map fun y => (y, H) := callR_3 rfl (noExt_of Try.func65 rfl)
theorem fz66 : (cf.keep 66 1000000).getD [] = [] := rfl
theorem dy66 {id : Nat} : dy 66 id = false := rfl
theorem cl66 : callR Try.prog (acall cf.mode strict (arun Try.prog cf k)) H (.fn 66 caps) args = ((amap (rb H depth) (args ++ caps)).bind (val Try.prog cf k 66)).map fun y => (y, H) := callR_3 rfl (noExt_of Try.func66 rfl)
theorem fz67 : (cf.keep 67 1000000).getD [] = [] := rfl
theorem dy67 {id : Nat} : dy 67 id = false := rfl
theorem cl67 : callR Try.prog (acall cf.mode strict (arun Try.prog cf k)) H (.fn 67 caps) args = ((amap (rb H depth) (args ++ caps)).bind (val Try.prog cf k 67)).map fun y => (y, H) := callR_3 rfl (noExt_of Try.func67 rfl)
theorem fz68 : (cf.keep 68 1000000).getD [] = [] := rfl
theorem dy68 {id : Nat} : dy 68 id = false := rfl
theorem cl68 : callR Try.prog (acall cf.mode strict (arun Try.prog cf k)) H (.fn 68 caps) args = arun Try.prog cf k 68 (args ++ caps) H := callR_0 rfl (noExt_of Try.func68 rfl)
theorem fz69 : (cf.keep 69 1000000).getD [] = [] := rfl
theorem dy69 {id : Nat} : dy 69 id = false := rfl
theorem cl69 : callR Try.prog (acall cf.mode strict (arun Try.prog cf k)) H (.fn 69 caps) args = ((amap (rb H depth) (args ++ caps)).bind (val Try.prog cf k 69)).map fun y => (y, H) := callR_3 rfl (noExt_of Try.func69 rfl)
theorem fz70 : (cf.keep 70 1000000).getD [] = [] := rfl
theorem dy70 {id : Nat} : dy 70 id = false := rfl
theorem cl70 : callR Try.prog (acall cf.mode strict (arun Try.prog cf k)) H (.fn 70 caps) args = ((amap (rb H depth) (args ++ caps)).bind (val Try.prog cf k 70)).map fun y => (y, H) := callR_3 rfl (noExt_of Try.func70 rfl)
theorem fz71 : (cf.keep 71 1000000).getD [] = [] := rfl
theorem dy71 {id : Nat} : dy 71 id = false := rfl
theorem cl71 : callR Try.prog (acall cf.mode strict (arun Try.prog cf k)) H (.fn 71 caps) args = ((amap (rb H depth) (args ++ caps)).bind (val Try.prog cf k 71)).map fun y => (y, H) := callR_3 rfl (noExt_of Try.func71 rfl)
theorem fz73 : (cf.keep 73 1000000).getD [] = [] := rfl
theorem dy73 {id : Nat} : dy 73 id = false := rfl
theorem cl73 : callR Try.prog (acall cf.mode strict (arun Try.prog cf k)) H (.fn 73 caps) args = arun Try.prog cf k 73 (args ++ caps) H := callR_0 rfl (noExt_of Try.func73 rfl)
theorem fz74 : (cf.keep 74 1000000).getD [] = [] := rfl
theorem dy74 {id : Nat} : dy 74 id = false := rfl
theorem cl74 : callR Try.prog (acall cf.mode strict (arun Try.prog cf k)) H (.fn 74 caps) args = arun Try.prog cf k 74 (args ++ caps) H := callR_0 rfl (noExt_of Try.func74 rfl)
theorem fz75 : (cf.keep 75 1000000).getD [] = [] := rfl
theorem dy75 {id : Nat} : dy 75 id = false := rfl
theorem cl75 : callR Try.prog (acall cf.mode strict (arun Try.prog cf k)) H (.fn 75 caps) args = ((amap (rb H depth) (args ++ caps)).bind (val Try.prog cf k 75)).map fun y => (y, H) := callR_3 rfl (noExt_of Try.func75 rfl)
theorem fz76 : (cf.keep 76 1000000).getD [] = [] := rfl
theorem dy76 {id : Nat} : dy 76 id = false := rfl
theorem cl76 : callR Try.prog (acall cf.mode strict (arun Try.prog cf k)) H (.fn 76 caps) args = arun Try.prog cf k 76 (args ++ caps) H := callR_0 rfl (noExt_of Try.func76 rfl)
theorem fz77 : (cf.keep 77 1000000).getD [] = [] := rfl
theorem dy77 {id : Nat} : dy 77 id = false := rfl
theorem cl77 : callR Try.prog (acall cf.mode strict (arun Try.prog cf k)) H (.fn 77 caps) args = arun Try.prog cf k 77 (args ++ caps) H := callR_0 rfl (noExt_of Try.func77 rfl)
theorem fz78 : (cf.keep 78 1000000).getD [] = [9] := rfl
theorem dy78 {id : Nat} : dy 78 id = false := rfl
theorem cl78 : callR Try.prog (acall cf.mode strict (arun Try.prog cf k)) H (.fn 78 caps) args = arun Try.prog cf k 78 (args ++ caps) H := callR_0 rfl (noExt_of Try.func78 rfl)
theorem fz79 : (cf.keep 79 1000000).getD [] = [] := rfl
theorem dy79 {id : Nat} : dy 79 id = false := rfl
theorem cl79 : callR Try.prog (acall cf.mode strict (arun Try.prog cf k)) H (.fn 79 caps) args = ((amap (rb H depth) (args ++ caps)).bind (val Try.prog cf k 79)).map fun y => (y, H) := callR_3 rfl (noExt_of Try.func79 rfl)
theorem fz80 : (cf.keep 80 1000000).getD [] = [] := rfl
theorem dy80 {id : Nat} : dy 80 id = false := rfl
theorem cl80 : callR Try.prog (acall cf.mode strict (arun Try.prog cf k)) H (.fn 80 caps) args = arun Try.prog cf k 80 (args ++ caps) H := callR_0 rfl (noExt_of Try.func80 rfl)
theorem fz81 : (cf.keep 81 1000000).getD [] = [] := rfl
theorem dy81 {id : Nat} : dy 81 id = false := rfl
theorem cl81 : callR Try.prog (acall cf.mode strict (arun Try.prog cf k)) H (.fn 81 caps) args = ((amap (rb H depth) (args ++ caps)).bind (val Try.prog cf k 81)).map fun y => (y, H) := callR_3 rfl (noExt_of Try.func81 rfl)
theorem fz82 : (cf.keep 82 1000000).getD [] = [] := rfl
theorem dy82 {id : Nat} : dy 82 id = false := rfl
theorem cl82 : callR Try.prog (acall cf.mode strict (arun Try.prog cf k)) H (.fn 82 caps) args = ((amap (rb H depth) (args ++ caps)).bind (val Try.prog cf k 82)).map fun y => (y, H) := callR_3 rfl (noExt_of Try.func82 rfl)
theorem fz83 : (cf.keep 83 1000000).getD [] = [] := rfl
theorem dy83 {id : Nat} : dy 83 id = false := rfl
theorem cl83 : callR Try.prog (acall cf.mode strict (arun Try.prog cf k)) H (.fn 83 caps) args = ((amap (rb H depth) (args ++ caps)).bind (val Try.prog cf k 83)).map fun y => (y, H) := callR_3 rfl (noExt_of Try.func83 rfl)
theorem fz84 : (cf.keep 84 1000000).getD [] = [] := rfl
theorem dy84 {id : Nat} : dy 84 id = false := rfl
theorem cl84 : callR Try.prog (acall cf.mode strict (arun Try.prog cf k)) H (.fn 84 caps) args = ((amap (rb H depth) (args ++ caps)).bind (val Try.prog cf k 84)).map fun y => (y, H) := callR_3 rfl (noExt_of Try.func84 rfl)
theorem fz85 : (cf.keep 85 1000000).getD [] = [] := rfl
theorem dy85 {id : Nat} : dy 85 id = false := rfl
theorem cl85 : callR Try.prog (acall cf.mode strict (arun Try.prog cf k)) H (.fn 85 caps) args = ((amap (rb H depth) (args ++ caps)).bind (val Try.prog cf k 85)).map fun y => (y, H) := callR_3 rfl (noExt_of Try.func85 rfl)
theorem fz86 : (cf.keep 86 1000000).getD [] = [] := rfl
theorem dy86 {id : Nat} : dy 86 id = false := rfl
theorem cl86 : callR Try.prog (acall cf.mode strict (arun Try.prog cf k)) H (.fn 86 caps) args = ((amap (rb H depth) (args ++ caps)).bind (val Try.prog cf k 86)).map fun y => (y, H) := callR_3 rfl (noExt_of Try.func86 rfl)
theorem fz87 : (cf.keep 87 1000000).getD [] = [] := rfl
theorem dy87 {id : Nat} : dy 87 id = false := rfl
theorem cl87 : callR Try.prog (acall cf.mode strict (arun Try.prog cf k)) H (.fn 87 caps) args = arun Try.prog cf k 87 (args ++ caps) H := callR_0 rfl (noExt_of Try.func87 rfl)
theorem fz88 : (cf.keep 88 1000000).getD [] = [] := rfl
theorem dy88 {id : Nat} : dy 88 id = false := rfl
theorem cl88 : callR Try.prog (acall cf.mode strict (arun Try.prog cf k)) H (.fn 88 caps) args = arun Try.prog cf k 88 (args ++ caps) H := callR_0 rfl (noExt_of Try.func88 rfl)
theorem fz89 : (cf.keep 89 1000000).getD [] = [7] := rfl
theorem dy89 {id : Nat} : dy 89 id = false := rfl
theorem cl89 : callR Try.prog (acall cf.mode strict (arun Try.prog cf k)) H (.fn 89 caps) args = arun Try.prog cf k 89 (args ++ caps) H := callR_0 rfl (noExt_of Try.func89 rfl)
theorem fz90 : (cf.keep 90 1000000).getD [] = [] := rfl
theorem dy90 {id : Nat} : dy 90 id = false := rfl
theorem cl90 : callR Try.prog (acall cf.mode strict (arun Try.prog cf k)) H (.fn 90 caps) args = ((amap (rb H depth) (args ++ caps)).bind (val Try.prog cf k 90)).map fun y => (y, H) := callR_3 rfl (noExt_of Try.func90 rfl)
theorem fz91 : (cf.keep 91 1000000).getD [] = [] := rfl
theorem dy91 {id : Nat} : dy 91 id = false := rfl
theorem cl91 : callR Try.prog (acall cf.mode strict (arun Try.prog cf k)) H (.fn 91 caps) args = arun Try.prog cf k 91 (args ++ caps) H := callR_0 rfl (noExt_of Try.func91 rfl)
theorem fz92 : (cf.keep 92 1000000).getD [] = [] := rfl
theorem dy92 {id : Nat} : dy 92 id = false := rfl
theorem cl92 : callR Try.prog (acall cf.mode strict (arun Try.prog cf k)) H (.fn 92 caps) args = ((amap (rb H depth) (args ++ caps)).bind (val Try.prog cf k 92)).map fun y => (y, H) := callR_3 rfl (noExt_of Try.func92 rfl)
theorem fz93 : (cf.keep 93 1000000).getD [] = [] := rfl
theorem dy93 {id : Nat} : dy 93 id = false := rfl
theorem cl93 : callR Try.prog (acall cf.mode strict (arun Try.prog cf k)) H (.fn 93 caps) args = ((amap (rb H depth) (args ++ caps)).bind (val Try.prog cf k 93)).map fun y => (y, H) := callR_3 rfl (noExt_of Try.func93 rfl)
theorem fz94 : (cf.keep 94 1000000).getD [] = [] := rfl
theorem dy94 {id : Nat} : dy 94 id = false := rfl
theorem cl94 : callR Try.prog (acall cf.mode strict (arun Try.prog cf k)) H (.fn 94 caps) args = ((amap (rb H depth) (args ++ caps)).bind (val Try.prog cf k 94)).map fun y => (y, H) := callR_3 rfl (noExt_of Try.func94 rfl)
theorem fz95 : (cf.keep 95 1000000).getD [] = [] := rfl
theorem dy95 {id : Nat} : dy 95 id = false := rfl
theorem cl95 : callR Try.prog (acall cf.mode strict (arun Try.prog cf k)) H (.fn 95 caps) args = arun Try.prog cf k 95 (args ++ caps) H := callR_0 rfl (noExt_of Try.func95 rfl)
theorem fz96 : (cf.keep 96 1000000).getD [] = [] := rfl
theorem dy96 {id : Nat} : dy 96 id = false := rfl
theorem cl96 : callR Try.prog (acall cf.mode strict (arun Try.prog cf k)) H (.fn 96 caps) args = ((amap (rb H depth) (args ++ caps)).bind (val Try.prog cf k 96)).map fun y => (y, H) := callR_3 rfl (noExt_of Try.func96 rfl)
theorem fz97 : (cf.keep 97 1000000).getD [] = [] := rfl
theorem dy97 {id : Nat} : dy 97 id = false := rfl
theorem cl97 : callR Try.prog (acall cf.mode strict (arun Try.prog cf k)) H (.fn 97 caps) args = arun Try.prog cf k 97 (args ++ caps) H := callR_0 rfl (noExt_of Try.func97 rfl)
theorem fz98 : (cf.keep 98 1000000).getD [] = [] := rfl
theorem dy98 {id : Nat} : dy 98 id = false := rfl
theorem cl98 : callR Try.prog (acall cf.mode strict (arun Try.prog cf k)) H (.fn 98 caps) args = ((amap (rb H depth) (args ++ caps)).bind (val Try.prog cf k 98)).map fun y => (y, H) := callR_3 rfl (noExt_of Try.func98 rfl)
theorem fz99 : (cf.keep 99 1000000).getD [] = [] := rfl
theorem dy99 {id : Nat} : dy 99 id = false := rfl
theorem cl99 : callR Try.prog (acall cf.mode strict (arun Try.prog cf k)) H (.fn 99 caps) args = ((amap (rb H depth) (args ++ caps)).bind (val Try.prog cf k 99)).map fun y => (y, H) := callR_3 rfl (noExt_of Try.func99 rfl)
theorem fz100 : (cf.keep 100 1000000).getD [] = [] := rfl
theorem dy100 {id : Nat} : dy 100 id = false := rfl
theorem cl100 : callR Try.prog (acall cf.mode strict (arun Try.prog cf k)) H (.fn 100 caps) args = arun Try.prog cf k 100 (args ++ caps) H := callR_0 rfl (noExt_of Try.func100 rfl)
theorem fz101 : (cf.keep 101 1000000).getD [] = [] := rfl
theorem dy101 {id : Nat} : dy 101 id = false := rfl
theorem cl101 : callR Try.prog (acall cf.mode strict (arun Try.prog cf k)) H (.fn 101 caps) args = ((amap (rb H depth) (args ++ caps)).bind (val Try.prog cf k 101)).map fun y => (y, H) := callR_3 rfl (noExt_of Try.func101 rfl)
theorem fz102 : (cf.keep 102 1000000).getD [] = [] := rfl
theorem dy102 {id : Nat} : dy 102 id = false := rfl
theorem cl102 : callR Try.prog (acall cf.mode strict (arun Try.prog cf k)) H (.fn 102 caps) args = ((amap (rb H depth) (args ++ caps)).bind (val Try.prog cf k 102)).map fun y => (y, H) := callR_3 rfl (noExt_of Try.func102 rfl)
theorem fz103 : (cf.keep 103 1000000).getD [] = [] := rfl
theorem dy103 {id : Nat} : dy 103 id = false := rfl
theorem cl103 : callR Try.prog (acall cf.mode strict (arun Try.prog cf k)) H (.fn 103 caps) args = ((amap (rb H depth) (args ++ caps)).bind (val Try.prog cf k 103)).map fun y => (y, H) := callR_3 rfl (noExt_of Try.func103 rfl)
theorem fz104 : (cf.keep 104 1000000).getD [] = [] := rfl
theorem dy104 {id : Nat} : dy 104 id = false := rfl
theorem cl104 : callR Try.prog (acall cf.mode strict (arun Try.prog cf k)) H (.fn 104 caps) args = ((amap (rb H depth) (args ++ caps)).bind (val Try.prog cf k 104)).map fun y => (y, H) := callR_3 rfl (noExt_of Try.func104 rfl)
theorem sz2 : szOf Try.prog 2 = some 1 := by kernel_rfl
theorem ag2 : aggB Try.prog 2 = some false := by kernel_rfl
theorem zk2 : zOk Try.prog 2 1 = true := by kernel_rfl
theorem sz3 : szOf Try.prog 3 = some 1 := by kernel_rfl
theorem ag3 : aggB Try.prog 3 = some false := by kernel_rfl
theorem zk3 : zOk Try.prog 3 1 = true := by kernel_rfl
theorem sz4 : szOf Try.prog 4 = some 1 := by kernel_rfl
theorem ag4 : aggB Try.prog 4 = some false := by kernel_rfl
theorem zk4 : zOk Try.prog 4 1 = true := by kernel_rfl
theorem sz5 : szOf Try.prog 5 = some 1 := by kernel_rfl
theorem ag5 : aggB Try.prog 5 = some false := by kernel_rfl
theorem zk5 : zOk Try.prog 5 1 = true := by kernel_rfl
theorem sz9 : szOf Try.prog 9 = some 1 := by kernel_rfl
theorem ag9 : aggB Try.prog 9 = some false := by kernel_rfl
theorem zk9 : zOk Try.prog 9 1 = true := by kernel_rfl
theorem sz22 : szOf Try.prog 22 = some 1 := by kernel_rfl
theorem ag22 : aggB Try.prog 22 = some false := by kernel_rfl
theorem zk22 : zOk Try.prog 22 1 = true := by kernel_rfl
theorem sz24 : szOf Try.prog 24 = some 2 := by kernel_rfl
theorem ag24 : aggB Try.prog 24 = some true := by kernel_rfl
theorem zk24 : zOk Try.prog 24 2 = true := by kernel_rfl
theorem sz26 : szOf Try.prog 26 = some 1 := by kernel_rfl
theorem ag26 : aggB Try.prog 26 = some false := by kernel_rfl
theorem zk26 : zOk Try.prog 26 1 = true := by kernel_rfl
theorem sz27 : szOf Try.prog 27 = some 2 := by kernel_rfl
theorem ag27 : aggB Try.prog 27 = some true := by kernel_rfl
theorem zk27 : zOk Try.prog 27 2 = true := by kernel_rfl
theorem sz40 : szOf Try.prog 40 = some 1 := by kernel_rfl
theorem ag40 : aggB Try.prog 40 = some false := by kernel_rfl
theorem zk40 : zOk Try.prog 40 1 = true := by kernel_rfl
theorem sz41 : szOf Try.prog 41 = some 1 := by kernel_rfl
theorem ag41 : aggB Try.prog 41 = some false := by kernel_rfl
theorem zk41 : zOk Try.prog 41 1 = true := by kernel_rfl
theorem sz43 : szOf Try.prog 43 = some 2 := by kernel_rfl
theorem ag43 : aggB Try.prog 43 = some true := by kernel_rfl
theorem zk43 : zOk Try.prog 43 2 = true := by kernel_rfl
theorem sz45 : szOf Try.prog 45 = some 3 := by kernel_rfl
theorem ag45 : aggB Try.prog 45 = some true := by kernel_rfl
theorem zk45 : zOk Try.prog 45 3 = true := by kernel_rfl
theorem sz48 : szOf Try.prog 48 = some 1 := by kernel_rfl
theorem ag48 : aggB Try.prog 48 = some false := by kernel_rfl
theorem zk48 : zOk Try.prog 48 1 = true := by kernel_rfl
theorem sz52 : szOf Try.prog 52 = some 1 := by kernel_rfl
theorem ag52 : aggB Try.prog 52 = some false := by kernel_rfl
theorem zk52 : zOk Try.prog 52 1 = true := by kernel_rfl
theorem sz54 : szOf Try.prog 54 = some 4 := by kernel_rfl
theorem ag54 : aggB Try.prog 54 = some true := by kernel_rfl
theorem zk54 : zOk Try.prog 54 4 = true := by kernel_rfl
theorem sz56 : szOf Try.prog 56 = some 3 := by kernel_rfl
theorem ag56 : aggB Try.prog 56 = some true := by kernel_rfl
theorem zk56 : zOk Try.prog 56 3 = true := by kernel_rfl
theorem sz58 : szOf Try.prog 58 = some 4 := by kernel_rfl
theorem ag58 : aggB Try.prog 58 = some true := by kernel_rfl
theorem zk58 : zOk Try.prog 58 4 = true := by kernel_rfl
theorem sz59 : szOf Try.prog 59 = some 1 := by kernel_rfl
theorem ag59 : aggB Try.prog 59 = some false := by kernel_rfl
theorem zk59 : zOk Try.prog 59 1 = true := by kernel_rfl
theorem sz61 : szOf Try.prog 61 = some 17 := by kernel_rfl
theorem ag61 : aggB Try.prog 61 = some true := by kernel_rfl
theorem zk61 : zOk Try.prog 61 17 = true := by kernel_rfl
theorem sz64 : szOf Try.prog 64 = some 1 := by kernel_rfl
theorem ag64 : aggB Try.prog 64 = some false := by kernel_rfl
theorem zk64 : zOk Try.prog 64 1 = true := by kernel_rfl
theorem sz70 : szOf Try.prog 70 = some 1 := by kernel_rfl
theorem ag70 : aggB Try.prog 70 = some false := by kernel_rfl
theorem zk70 : zOk Try.prog 70 1 = true := by kernel_rfl
theorem sz72 : szOf Try.prog 72 = some 1 := by kernel_rfl
theorem ag72 : aggB Try.prog 72 = some false := by kernel_rfl
theorem zk72 : zOk Try.prog 72 1 = true := by kernel_rfl
theorem sz74 : szOf Try.prog 74 = some 1 := by kernel_rfl
theorem ag74 : aggB Try.prog 74 = some false := by kernel_rfl
theorem zk74 : zOk Try.prog 74 1 = true := by kernel_rfl
theorem sz77 : szOf Try.prog 77 = some 1 := by kernel_rfl
theorem ag77 : aggB Try.prog 77 = some false := by kernel_rfl
theorem zk77 : zOk Try.prog 77 1 = true := by kernel_rfl
theorem sz78 : szOf Try.prog 78 = some 1 := by kernel_rfl
theorem ag78 : aggB Try.prog 78 = some false := by kernel_rfl
theorem zk78 : zOk Try.prog 78 1 = true := by kernel_rfl
theorem sz79 : szOf Try.prog 79 = some 1 := by kernel_rfl
theorem ag79 : aggB Try.prog 79 = some false := by kernel_rfl
theorem zk79 : zOk Try.prog 79 1 = true := by kernel_rfl
theorem sz81 : szOf Try.prog 81 = some 2 := by kernel_rfl
theorem ag81 : aggB Try.prog 81 = some true := by kernel_rfl
theorem zk81 : zOk Try.prog 81 2 = true := by kernel_rfl
theorem sz93 : szOf Try.prog 93 = some 1 := by kernel_rfl
theorem ag93 : aggB Try.prog 93 = some false := by kernel_rfl
theorem zk93 : zOk Try.prog 93 1 = true := by kernel_rfl
theorem sz97 : szOf Try.prog 97 = some 2 := by kernel_rfl
theorem ag97 : aggB Try.prog 97 = some true := by kernel_rfl
theorem zk97 : zOk Try.prog 97 2 = true := by kernel_rfl
theorem sz100 : szOf Try.prog 100 = some 1 := by kernel_rfl
theorem ag100 : aggB Try.prog 100 = some false := by kernel_rfl
theorem zk100 : zOk Try.prog 100 1 = true := by kernel_rfl
theorem sz103 : szOf Try.prog 103 = some 1 := by kernel_rfl
theorem ag103 : aggB Try.prog 103 = some false := by kernel_rfl
theorem zk103 : zOk Try.prog 103 1 = true := by kernel_rfl
theorem sz104 : szOf Try.prog 104 = some 1 := by kernel_rfl
theorem ag104 : aggB Try.prog 104 = some false := by kernel_rfl
theorem zk104 : zOk Try.prog 104 1 = true := by kernel_rfl
theorem sz106 : szOf Try.prog 106 = some 1 := by kernel_rfl
theorem ag106 : aggB Try.prog 106 = some false := by kernel_rfl
theorem zk106 : zOk Try.prog 106 1 = true := by kernel_rfl
theorem sz110 : szOf Try.prog 110 = some 1 := by kernel_rfl
theorem ag110 : aggB Try.prog 110 = some false := by kernel_rfl
theorem zk110 : zOk Try.prog 110 1 = true := by kernel_rfl
theorem sz113 : szOf Try.prog 113 = some 1 := by kernel_rfl
theorem ag113 : aggB Try.prog 113 = some false := by kernel_rfl
theorem zk113 : zOk Try.prog 113 1 = true := by kernel_rfl
theorem sz119 : szOf Try.prog 119 = some 1 := by kernel_rfl
theorem ag119 : aggB Try.prog 119 = some false := by kernel_rfl
theorem zk119 : zOk Try.prog 119 1 = true := by kernel_rfl
theorem sz122 : szOf Try.prog 122 = some 1 := by kernel_rfl
theorem ag122 : aggB Try.prog 122 = some false := by kernel_rfl
theorem zk122 : zOk Try.prog 122 1 = true := by kernel_rfl
theorem sz125 : szOf Try.prog 125 = some 2 := by kernel_rfl
theorem ag125 : aggB Try.prog 125 = some true := by kernel_rfl
theorem zk125 : zOk Try.prog 125 2 = true := by kernel_rfl
theorem sz127 : szOf Try.prog 127 = some 1 := by kernel_rfl
theorem ag127 : aggB Try.prog 127 = some false := by kernel_rfl
theorem zk127 : zOk Try.prog 127 1 = true := by kernel_rfl
theorem sz134 : szOf Try.prog 134 = some 1 := by kernel_rfl
theorem ag134 : aggB Try.prog 134 = some false := by kernel_rfl
theorem zk134 : zOk Try.prog 134 1 = true := by kernel_rfl
theorem sz136 : szOf Try.prog 136 = some 1 := by kernel_rfl
theorem ag136 : aggB Try.prog 136 = some false := by kernel_rfl
theorem zk136 : zOk Try.prog 136 1 = true := by kernel_rfl
theorem sz142 : szOf Try.prog 142 = some 1 := by kernel_rfl
theorem ag142 : aggB Try.prog 142 = some false := by kernel_rfl
theorem zk142 : zOk Try.prog 142 1 = true := by kernel_rfl
theorem sz146 : szOf Try.prog 146 = some 1 := by kernel_rfl
theorem ag146 : aggB Try.prog 146 = some false := by kernel_rfl
theorem zk146 : zOk Try.prog 146 1 = true := by kernel_rfl
theorem al3 : aAlloc Try.prog H 3 = some (.new (.ptr H.length 0 0) ⟨3, 1, 0, false, [.sc (.int .i64 0)], .cells⟩) := by kernel_rfl
theorem al24 : aAlloc Try.prog H 24 = some (.new (.ptr H.length 0 0) ⟨24, 2, 0, false, [.sc (.string .empty), .sc (.string .empty)], .cells⟩) := by kernel_rfl
theorem bd24 {ρ : Operand → AV} {d : Option Tmp} {ty : TypeId} {pos : String} {af : Array Edge} {g : Option (Nat × Bool)} {parts : Array (Nat × Operand)} : aop Try.prog H ρ ⟨d, .build 24 parts, ty, pos, af, g⟩ = (afill (fun i => ([(0, 1), (1, 1)] : List (Nat × Nat))[i]?) [.sc (.string .empty), .sc (.string .empty)] (parts.toList.map fun (x : Nat × Operand) => (x.1, ρ x.2))).map fun cs => .val (.agg cs) := by kernel_rfl
theorem al27 : aAlloc Try.prog H 27 = some (.new (.ptr H.length 0 0) ⟨27, 2, 0, false, [.sc (.string .empty), .sc (.string .empty)], .cells⟩) := by kernel_rfl
theorem bd27 {ρ : Operand → AV} {d : Option Tmp} {ty : TypeId} {pos : String} {af : Array Edge} {g : Option (Nat × Bool)} {parts : Array (Nat × Operand)} : aop Try.prog H ρ ⟨d, .build 27 parts, ty, pos, af, g⟩ = (afill (fun i => ([(0, 1), (1, 1)] : List (Nat × Nat))[i]?) [.sc (.string .empty), .sc (.string .empty)] (parts.toList.map fun (x : Nat × Operand) => (x.1, ρ x.2))).map fun cs => .val (.agg cs) := by kernel_rfl
theorem al43 : aAlloc Try.prog H 43 = some (.new (.ptr H.length 0 0) ⟨43, 2, 0, false, [.sc (.string .empty), .sc (.slice none 0 0)], .cells⟩) := by kernel_rfl
theorem bd43 {ρ : Operand → AV} {d : Option Tmp} {ty : TypeId} {pos : String} {af : Array Edge} {g : Option (Nat × Bool)} {parts : Array (Nat × Operand)} : aop Try.prog H ρ ⟨d, .build 43 parts, ty, pos, af, g⟩ = (afill (fun i => ([(0, 1), (1, 1)] : List (Nat × Nat))[i]?) [.sc (.string .empty), .sc (.slice none 0 0)] (parts.toList.map fun (x : Nat × Operand) => (x.1, ρ x.2))).map fun cs => .val (.agg cs) := by kernel_rfl
theorem al45 : aAlloc Try.prog H 45 = some (.new (.ptr H.length 0 0) ⟨45, 3, 0, false, [.sc (.slice none 0 0), .sc (.string .empty), .sc (.slice none 0 0)], .cells⟩) := by kernel_rfl
theorem bd45 {ρ : Operand → AV} {d : Option Tmp} {ty : TypeId} {pos : String} {af : Array Edge} {g : Option (Nat × Bool)} {parts : Array (Nat × Operand)} : aop Try.prog H ρ ⟨d, .build 45 parts, ty, pos, af, g⟩ = (afill (fun i => ([(0, 1), (1, 2)] : List (Nat × Nat))[i]?) [.sc (.slice none 0 0), .sc (.string .empty), .sc (.slice none 0 0)] (parts.toList.map fun (x : Nat × Operand) => (x.1, ρ x.2))).map fun cs => .val (.agg cs) := by kernel_rfl
theorem al48 : aAlloc Try.prog H 48 = some (.new (.ptr H.length 0 0) ⟨48, 1, 0, false, [.sc (.slice none 0 0)], .cells⟩) := by kernel_rfl
theorem al54 : aAlloc Try.prog H 54 = some (.new (.ptr H.length 0 0) ⟨54, 4, 0, false, [.sc (.string .empty), .sc (.slice none 0 0), .sc (.int .i64 0), .sc (.slice none 0 0)], .cells⟩) := by kernel_rfl
theorem bd54 {ρ : Operand → AV} {d : Option Tmp} {ty : TypeId} {pos : String} {af : Array Edge} {g : Option (Nat × Bool)} {parts : Array (Nat × Operand)} : aop Try.prog H ρ ⟨d, .build 54 parts, ty, pos, af, g⟩ = (afill (fun i => ([(0, 2), (2, 1), (3, 1)] : List (Nat × Nat))[i]?) [.sc (.string .empty), .sc (.slice none 0 0), .sc (.int .i64 0), .sc (.slice none 0 0)] (parts.toList.map fun (x : Nat × Operand) => (x.1, ρ x.2))).map fun cs => .val (.agg cs) := by kernel_rfl
theorem bd56 {ρ : Operand → AV} {d : Option Tmp} {ty : TypeId} {pos : String} {af : Array Edge} {g : Option (Nat × Bool)} {parts : Array (Nat × Operand)} : aop Try.prog H ρ ⟨d, .build 56 parts, ty, pos, af, g⟩ = (afill (fun i => ([(0, 1), (1, 1), (2, 1)] : List (Nat × Nat))[i]?) [.sc (.int .i64 0), .sc (.int .i64 0), .sc (.string .empty)] (parts.toList.map fun (x : Nat × Operand) => (x.1, ρ x.2))).map fun cs => .val (.agg cs) := by kernel_rfl
theorem al58 : aAlloc Try.prog H 58 = some (.new (.ptr H.length 0 0) ⟨58, 4, 0, false, [.sc (.string .empty), .sc (.int .i64 0), .sc (.int .i64 0), .sc (.string .empty)], .cells⟩) := by kernel_rfl
theorem bd58 {ρ : Operand → AV} {d : Option Tmp} {ty : TypeId} {pos : String} {af : Array Edge} {g : Option (Nat × Bool)} {parts : Array (Nat × Operand)} : aop Try.prog H ρ ⟨d, .build 58 parts, ty, pos, af, g⟩ = (afill (fun i => ([(0, 1), (1, 3)] : List (Nat × Nat))[i]?) [.sc (.string .empty), .sc (.int .i64 0), .sc (.int .i64 0), .sc (.string .empty)] (parts.toList.map fun (x : Nat × Operand) => (x.1, ρ x.2))).map fun cs => .val (.agg cs) := by kernel_rfl
theorem al61 : aAlloc Try.prog H 61 = some (.new (.ptr H.length 0 0) ⟨61, 17, 0, false, [.sc (.int .i64 0), .sc (.string .empty), .sc (.slice none 0 0), .sc (.string .empty), .sc (.string .empty), .sc (.int .i64 0), .sc (.int .i64 0), .sc (.string .empty), .sc (.string .empty), .sc (.int .i64 0), .sc (.int .i64 0), .sc (.string .empty), .sc (.string .empty), .sc (.int .i64 0), .sc (.int .i64 0), .sc (.string .empty), .sc (.slice none 0 0)], .cells⟩) := by kernel_rfl
theorem bd61 {ρ : Operand → AV} {d : Option Tmp} {ty : TypeId} {pos : String} {af : Array Edge} {g : Option (Nat × Bool)} {parts : Array (Nat × Operand)} : aop Try.prog H ρ ⟨d, .build 61 parts, ty, pos, af, g⟩ = (afill (fun i => ([(0, 1), (1, 2), (3, 1), (4, 4), (8, 4), (12, 4), (16, 1)] : List (Nat × Nat))[i]?) [.sc (.int .i64 0), .sc (.string .empty), .sc (.slice none 0 0), .sc (.string .empty), .sc (.string .empty), .sc (.int .i64 0), .sc (.int .i64 0), .sc (.string .empty), .sc (.string .empty), .sc (.int .i64 0), .sc (.int .i64 0), .sc (.string .empty), .sc (.string .empty), .sc (.int .i64 0), .sc (.int .i64 0), .sc (.string .empty), .sc (.slice none 0 0)] (parts.toList.map fun (x : Nat × Operand) => (x.1, ρ x.2))).map fun cs => .val (.agg cs) := by kernel_rfl
theorem al70 : aAlloc Try.prog H 70 = some (.new (.ptr H.length 0 0) ⟨70, 1, 0, false, [.sc (.slice none 0 0)], .cells⟩) := by kernel_rfl
theorem al72 : aAlloc Try.prog H 72 = some (.new (.ptr H.length 0 0) ⟨72, 1, 0, false, [.sc (.map none)], .cells⟩) := by kernel_rfl
theorem al81 : aAlloc Try.prog H 81 = some (.new (.ptr H.length 0 0) ⟨81, 2, 0, false, [.sc (.pointer none), .sc (.slice none 0 0)], .cells⟩) := by kernel_rfl
theorem al97 : aAlloc Try.prog H 97 = some (.new (.ptr H.length 0 0) ⟨97, 2, 0, false, [.sc (.int .i64 0), .sc (.int .i64 0)], .cells⟩) := by kernel_rfl
theorem al125 : aAlloc Try.prog H 125 = some (.new (.ptr H.length 0 0) ⟨125, 2, 0, false, [.sc (.int .i64 0), .sc (.string .empty)], .cells⟩) := by kernel_rfl
theorem al142 : aAlloc Try.prog H 142 = some (.new (.ptr H.length 0 0) ⟨142, 1, 0, false, [.sc (.int .u64 0)], .cells⟩) := by kernel_rfl
theorem len22 {sz : Nat} {rows : List (List AV)} : aLen Try.prog H 22 (mkL sz rows) = some (.val (.sc (.int .i64 rows.length))) := aLen_mkL Try.underlying22
theorem ix22 {rows : List (List AV)} {q : IntKind} {i : Nat} : aIndexAddr Try.prog H 22 (mkL 2 rows) (.sc (.int q (i : Nat))) = (rows[i]?).map fun r => .val (.ro r) := ix_mkL Try.underlying22 sz24 (by decide)
theorem ro22 : rowOk Try.prog 22 24 2 32 = true := by kernel_rfl
theorem bs22 {x : AV} : aBS1 Try.prog H 22 x = if (solid x && decide ((acells x).length = 2) && (acells x).all one) = true then some (.new (.own H.length 0 1 2 0) ⟨24, 2, 0, true, acells x, .cells⟩) else bsElse Try.prog H 22 x := bs1_if ro22
theorem bz22 {ρ : Operand → AV} {d : Option Tmp} {ty : TypeId} {pos : String} {af : Array Edge} {g : Option (Nat × Bool)} : aop Try.prog H ρ ⟨d, .buildSlice 22 0 #[], ty, pos, af, g⟩ = some (.new .z ⟨24, 2, 0, true, [], .cells⟩) := by kernel_rfl
theorem len26 {sz : Nat} {rows : List (List AV)} : aLen Try.prog H 26 (mkL sz rows) = some (.val (.sc (.int .i64 rows.length))) := aLen_mkL Try.underlying26
theorem ix26 {rows : List (List AV)} {q : IntKind} {i : Nat} : aIndexAddr Try.prog H 26 (mkL 2 rows) (.sc (.int q (i : Nat))) = (rows[i]?).map fun r => .val (.ro r) := ix_mkL Try.underlying26 sz27 (by decide)
theorem ro26 : rowOk Try.prog 26 27 2 32 = true := by kernel_rfl
theorem bs26 {x : AV} : aBS1 Try.prog H 26 x = if (solid x && decide ((acells x).length = 2) && (acells x).all one) = true then some (.new (.own H.length 0 1 2 0) ⟨27, 2, 0, true, acells x, .cells⟩) else bsElse Try.prog H 26 x := bs1_if ro26
theorem bz26 {ρ : Operand → AV} {d : Option Tmp} {ty : TypeId} {pos : String} {af : Array Edge} {g : Option (Nat × Bool)} : aop Try.prog H ρ ⟨d, .buildSlice 26 0 #[], ty, pos, af, g⟩ = some (.new .z ⟨27, 2, 0, true, [], .cells⟩) := by kernel_rfl
theorem len40 {sz : Nat} {rows : List (List AV)} : aLen Try.prog H 40 (mkL sz rows) = some (.val (.sc (.int .i64 rows.length))) := aLen_mkL Try.underlying40
theorem ix40 {rows : List (List AV)} {q : IntKind} {i : Nat} : aIndexAddr Try.prog H 40 (mkL 4 rows) (.sc (.int q (i : Nat))) = (rows[i]?).map fun r => .val (.ro r) := ix_mkL Try.underlying40 sz54 (by decide)
theorem ro40 : rowOk Try.prog 40 54 4 72 = true := by kernel_rfl
theorem bs40 {x : AV} : aBS1 Try.prog H 40 x = if (solid x && decide ((acells x).length = 4) && (acells x).all one) = true then some (.new (.own H.length 0 1 4 0) ⟨54, 4, 0, true, acells x, .cells⟩) else bsElse Try.prog H 40 x := bs1_if ro40
theorem bz40 {ρ : Operand → AV} {d : Option Tmp} {ty : TypeId} {pos : String} {af : Array Edge} {g : Option (Nat × Bool)} : aop Try.prog H ρ ⟨d, .buildSlice 40 0 #[], ty, pos, af, g⟩ = some (.new .z ⟨54, 4, 0, true, [], .cells⟩) := by kernel_rfl
theorem len41 {sz : Nat} {rows : List (List AV)} : aLen Try.prog H 41 (mkL sz rows) = some (.val (.sc (.int .i64 rows.length))) := aLen_mkL Try.underlying41
theorem ix41 {rows : List (List AV)} {q : IntKind} {i : Nat} : aIndexAddr Try.prog H 41 (mkL 4 rows) (.sc (.int q (i : Nat))) = (rows[i]?).map fun r => .val (.ro r) := ix_mkL Try.underlying41 sz58 (by decide)
theorem ro41 : rowOk Try.prog 41 58 4 48 = true := by kernel_rfl
theorem bs41 {x : AV} : aBS1 Try.prog H 41 x = if (solid x && decide ((acells x).length = 4) && (acells x).all one) = true then some (.new (.own H.length 0 1 4 0) ⟨58, 4, 0, true, acells x, .cells⟩) else bsElse Try.prog H 41 x := bs1_if ro41
theorem bz41 {ρ : Operand → AV} {d : Option Tmp} {ty : TypeId} {pos : String} {af : Array Edge} {g : Option (Nat × Bool)} : aop Try.prog H ρ ⟨d, .buildSlice 41 0 #[], ty, pos, af, g⟩ = some (.new .z ⟨58, 4, 0, true, [], .cells⟩) := by kernel_rfl
theorem len48 {sz : Nat} {rows : List (List AV)} : aLen Try.prog H 48 (mkL sz rows) = some (.val (.sc (.int .i64 rows.length))) := aLen_mkL Try.underlying48
theorem ix48 {rows : List (List AV)} {q : IntKind} {i : Nat} : aIndexAddr Try.prog H 48 (mkL 1 rows) (.sc (.int q (i : Nat))) = (rows[i]?).map fun r => .val (.ro r) := ix_mkL Try.underlying48 sz9 (by decide)
theorem ro48 : rowOk Try.prog 48 9 1 16 = true := by kernel_rfl
theorem bs48 {x : AV} : aBS1 Try.prog H 48 x = if (solid x && decide ((acells x).length = 1) && (acells x).all one) = true then some (.new (.own H.length 0 1 1 0) ⟨9, 1, 0, true, acells x, .cells⟩) else bsElse Try.prog H 48 x := bs1_if ro48
theorem bz48 {ρ : Operand → AV} {d : Option Tmp} {ty : TypeId} {pos : String} {af : Array Edge} {g : Option (Nat × Bool)} : aop Try.prog H ρ ⟨d, .buildSlice 48 0 #[], ty, pos, af, g⟩ = some (.new .z ⟨9, 1, 0, true, [], .cells⟩) := by kernel_rfl
theorem len52 {sz : Nat} {rows : List (List AV)} : aLen Try.prog H 52 (mkL sz rows) = some (.val (.sc (.int .i64 rows.length))) := aLen_mkL Try.underlying52
theorem ix52 {rows : List (List AV)} {q : IntKind} {i : Nat} : aIndexAddr Try.prog H 52 (mkL 17 rows) (.sc (.int q (i : Nat))) = (rows[i]?).map fun r => .val (.ro r) := ix_mkL Try.underlying52 sz61 (by decide)
theorem ro52 : rowOk Try.prog 52 61 17 232 = true := by kernel_rfl
theorem bs52 {x : AV} : aBS1 Try.prog H 52 x = if (solid x && decide ((acells x).length = 17) && (acells x).all one) = true then some (.new (.own H.length 0 1 17 0) ⟨61, 17, 0, true, acells x, .cells⟩) else bsElse Try.prog H 52 x := bs1_if ro52
theorem bz52 {ρ : Operand → AV} {d : Option Tmp} {ty : TypeId} {pos : String} {af : Array Edge} {g : Option (Nat × Bool)} : aop Try.prog H ρ ⟨d, .buildSlice 52 0 #[], ty, pos, af, g⟩ = some (.new .z ⟨61, 17, 0, true, [], .cells⟩) := by kernel_rfl
theorem len59 {sz : Nat} {rows : List (List AV)} : aLen Try.prog H 59 (mkL sz rows) = some (.val (.sc (.int .i64 rows.length))) := aLen_mkL Try.underlying59
theorem ix59 {rows : List (List AV)} {q : IntKind} {i : Nat} : aIndexAddr Try.prog H 59 (mkL 2 rows) (.sc (.int q (i : Nat))) = (rows[i]?).map fun r => .val (.ro r) := ix_mkL Try.underlying59 sz125 (by decide)
theorem ro59 : rowOk Try.prog 59 125 2 24 = true := by kernel_rfl
theorem bs59 {x : AV} : aBS1 Try.prog H 59 x = if (solid x && decide ((acells x).length = 2) && (acells x).all one) = true then some (.new (.own H.length 0 1 2 0) ⟨125, 2, 0, true, acells x, .cells⟩) else bsElse Try.prog H 59 x := bs1_if ro59
theorem bz59 {ρ : Operand → AV} {d : Option Tmp} {ty : TypeId} {pos : String} {af : Array Edge} {g : Option (Nat × Bool)} : aop Try.prog H ρ ⟨d, .buildSlice 59 0 #[], ty, pos, af, g⟩ = some (.new .z ⟨125, 2, 0, true, [], .cells⟩) := by kernel_rfl
theorem len70 {sz : Nat} {rows : List (List AV)} : aLen Try.prog H 70 (mkL sz rows) = some (.val (.sc (.int .i64 rows.length))) := aLen_mkL Try.underlying70
theorem ix70 {rows : List (List AV)} {q : IntKind} {i : Nat} : aIndexAddr Try.prog H 70 (mkL 2 rows) (.sc (.int q (i : Nat))) = (rows[i]?).map fun r => .val (.ro r) := ix_mkL Try.underlying70 sz97 (by decide)
theorem ro70 : rowOk Try.prog 70 97 2 16 = true := by kernel_rfl
theorem bs70 {x : AV} : aBS1 Try.prog H 70 x = if (solid x && decide ((acells x).length = 2) && (acells x).all one) = true then some (.new (.own H.length 0 1 2 0) ⟨97, 2, 0, true, acells x, .cells⟩) else bsElse Try.prog H 70 x := bs1_if ro70
theorem bz70 {ρ : Operand → AV} {d : Option Tmp} {ty : TypeId} {pos : String} {af : Array Edge} {g : Option (Nat × Bool)} : aop Try.prog H ρ ⟨d, .buildSlice 70 0 #[], ty, pos, af, g⟩ = some (.new .z ⟨97, 2, 0, true, [], .cells⟩) := by kernel_rfl
theorem len74 {sz : Nat} {rows : List (List AV)} : aLen Try.prog H 74 (mkL sz rows) = some (.val (.sc (.int .i64 rows.length))) := aLen_mkL Try.underlying74
theorem ix74 {rows : List (List AV)} {q : IntKind} {i : Nat} : aIndexAddr Try.prog H 74 (mkL 1 rows) (.sc (.int q (i : Nat))) = (rows[i]?).map fun r => .val (.ro r) := ix_mkL Try.underlying74 sz3 (by decide)
theorem ro74 : rowOk Try.prog 74 3 1 8 = true := by kernel_rfl
theorem bs74 {x : AV} : aBS1 Try.prog H 74 x = if (solid x && decide ((acells x).length = 1) && (acells x).all one) = true then some (.new (.own H.length 0 1 1 0) ⟨3, 1, 0, true, acells x, .cells⟩) else bsElse Try.prog H 74 x := bs1_if ro74
theorem bz74 {ρ : Operand → AV} {d : Option Tmp} {ty : TypeId} {pos : String} {af : Array Edge} {g : Option (Nat × Bool)} : aop Try.prog H ρ ⟨d, .buildSlice 74 0 #[], ty, pos, af, g⟩ = some (.new .z ⟨3, 1, 0, true, [], .cells⟩) := by kernel_rfl
theorem len79 {sz : Nat} {rows : List (List AV)} : aLen Try.prog H 79 (mkL sz rows) = some (.val (.sc (.int .i64 rows.length))) := aLen_mkL Try.underlying79
theorem ix79 {rows : List (List AV)} {q : IntKind} {i : Nat} : aIndexAddr Try.prog H 79 (mkL 1 rows) (.sc (.int q (i : Nat))) = (rows[i]?).map fun r => .val (.ro r) := ix_mkL Try.underlying79 sz5 (by decide)
theorem ro79 : rowOk Try.prog 79 5 1 1 = true := by kernel_rfl
theorem bs79 {x : AV} : aBS1 Try.prog H 79 x = if (solid x && decide ((acells x).length = 1) && (acells x).all one) = true then some (.new (.own H.length 0 1 1 0) ⟨5, 1, 0, true, acells x, .cells⟩) else bsElse Try.prog H 79 x := bs1_if ro79
theorem bz79 {ρ : Operand → AV} {d : Option Tmp} {ty : TypeId} {pos : String} {af : Array Edge} {g : Option (Nat × Bool)} : aop Try.prog H ρ ⟨d, .buildSlice 79 0 #[], ty, pos, af, g⟩ = some (.new .z ⟨5, 1, 0, true, [], .cells⟩) := by kernel_rfl
theorem len104 {sz : Nat} {rows : List (List AV)} : aLen Try.prog H 104 (mkL sz rows) = some (.val (.sc (.int .i64 rows.length))) := aLen_mkL Try.underlying104
theorem ix104 {rows : List (List AV)} {q : IntKind} {i : Nat} : aIndexAddr Try.prog H 104 (mkL 1 rows) (.sc (.int q (i : Nat))) = (rows[i]?).map fun r => .val (.ro r) := ix_mkL Try.underlying104 sz4 (by decide)
theorem ro104 : rowOk Try.prog 104 4 1 1 = true := by kernel_rfl
theorem bs104 {x : AV} : aBS1 Try.prog H 104 x = if (solid x && decide ((acells x).length = 1) && (acells x).all one) = true then some (.new (.own H.length 0 1 1 0) ⟨4, 1, 0, true, acells x, .cells⟩) else bsElse Try.prog H 104 x := bs1_if ro104
theorem bz104 {ρ : Operand → AV} {d : Option Tmp} {ty : TypeId} {pos : String} {af : Array Edge} {g : Option (Nat × Bool)} : aop Try.prog H ρ ⟨d, .buildSlice 104 0 #[], ty, pos, af, g⟩ = some (.new .z ⟨4, 1, 0, true, [], .cells⟩) := by kernel_rfl
theorem len106 {sz : Nat} {rows : List (List AV)} : aLen Try.prog H 106 (mkL sz rows) = some (.val (.sc (.int .i64 rows.length))) := aLen_mkL Try.underlying106
theorem ix106 {rows : List (List AV)} {q : IntKind} {i : Nat} : aIndexAddr Try.prog H 106 (mkL 1 rows) (.sc (.int q (i : Nat))) = (rows[i]?).map fun r => .val (.ro r) := ix_mkL Try.underlying106 sz74 (by decide)
theorem ro106 : rowOk Try.prog 106 74 1 24 = true := by kernel_rfl
theorem bs106 {x : AV} : aBS1 Try.prog H 106 x = if (solid x && decide ((acells x).length = 1) && (acells x).all one) = true then some (.new (.own H.length 0 1 1 0) ⟨74, 1, 0, true, acells x, .cells⟩) else bsElse Try.prog H 106 x := bs1_if ro106
theorem bz106 {ρ : Operand → AV} {d : Option Tmp} {ty : TypeId} {pos : String} {af : Array Edge} {g : Option (Nat × Bool)} : aop Try.prog H ρ ⟨d, .buildSlice 106 0 #[], ty, pos, af, g⟩ = some (.new .z ⟨74, 1, 0, true, [], .cells⟩) := by kernel_rfl
theorem len122 {sz : Nat} {rows : List (List AV)} : aLen Try.prog H 122 (mkL sz rows) = some (.val (.sc (.int .i64 rows.length))) := aLen_mkL Try.underlying122
theorem ix122 {rows : List (List AV)} {q : IntKind} {i : Nat} : aIndexAddr Try.prog H 122 (mkL 1 rows) (.sc (.int q (i : Nat))) = (rows[i]?).map fun r => .val (.ro r) := ix_mkL Try.underlying122 sz41 (by decide)
theorem ro122 : rowOk Try.prog 122 41 1 24 = true := by kernel_rfl
theorem bs122 {x : AV} : aBS1 Try.prog H 122 x = if (solid x && decide ((acells x).length = 1) && (acells x).all one) = true then some (.new (.own H.length 0 1 1 0) ⟨41, 1, 0, true, acells x, .cells⟩) else bsElse Try.prog H 122 x := bs1_if ro122
theorem bz122 {ρ : Operand → AV} {d : Option Tmp} {ty : TypeId} {pos : String} {af : Array Edge} {g : Option (Nat × Bool)} : aop Try.prog H ρ ⟨d, .buildSlice 122 0 #[], ty, pos, af, g⟩ = some (.new .z ⟨41, 1, 0, true, [], .cells⟩) := by kernel_rfl
end Go.Proofs.YtiphnjohbbpkpaaA
