/- A part of the proof of MagicAsks: functions of the program, run by the evaluator. -/

/- A seat's configuration: what is run, how calls are told, what is kept at loops' heads; facts on types. -/
import Derived.Test.YtpgipdajinkdgaaGreatAvZ
import Derived.Test.YtpgipdajinkdgaaGreatAvVf
import Derived.Test.YtpgipdajinkdgaaGreatAvVh
import Derived.Test.YtpgipdajinkdgaaGreatProg
namespace Go.Proofs.YtpgipdajinkdgaaGreatA
open Go Go.RowKit
set_option linter.all false
set_option linter.unusedSectionVars false
set_option linter.constructorNameAsVariable false
def kp (f : FuncId) (id : Nat) : Option (List Nat) := (bif Nat.ble 91 f then (bif Nat.ble 137 f then (bif Nat.ble 160 f then (bif Nat.ble 171 f then none else (bif Nat.ble 165 f then (bif Nat.ble 168 f then none else (bif Nat.ble 166 f then none else (bif Nat.beq id 3 then some [0, 1, 5, 10] else none))) else (bif Nat.ble 162 f then (bif Nat.ble 163 f then none else (bif Nat.beq id 2 then some [0, 1, 2, 7] else none)) else none))) else (bif Nat.ble 148 f then (bif Nat.ble 154 f then (bif Nat.ble 157 f then none else (bif Nat.ble 155 f then (bif Nat.ble 156 f then (bif Nat.beq id 1 then some [0, 2, 3, 8] else none) else none) else none)) else (bif Nat.ble 151 f then (bif Nat.ble 152 f then none else (bif Nat.beq id 1 then some [0, 2, 3, 4, 10] else none)) else (bif Nat.ble 149 f then (bif Nat.ble 150 f then (bif Nat.beq id 5 then some [0, 5, 6] else none) else none) else (bif Nat.beq id 2 then some [0, 1, 5] else none)))) else (bif Nat.ble 142 f then (bif Nat.ble 145 f then (bif Nat.ble 146 f then (bif Nat.ble 147 f then (bif Nat.beq id 3 then some [0, 1, 10, 11] else bif Nat.beq id 5 then some [0, 1, 10, 11] else bif Nat.beq id 13 then some [0, 1, 10, 11] else bif Nat.beq id 15 then some [0, 1, 10, 11] else none) else (bif Nat.beq id 3 then some [0, 1, 9, 10] else bif Nat.beq id 5 then some [0, 1, 9, 10] else none)) else (bif Nat.beq id 3 then some [0, 1, 2, 7, 8] else bif Nat.beq id 5 then some [0, 1, 2, 7, 8] else bif Nat.beq id 14 then some [0, 1, 2, 7, 8, 9] else bif Nat.beq id 20 then some [0, 1, 2, 7, 8, 10] else none)) else (bif Nat.ble 143 f then (bif Nat.ble 144 f then (bif Nat.beq id 2 then some [0, 6, 7] else none) else none) else (bif Nat.beq id 5 then some [0, 1, 6, 7, 8, 9] else none))) else (bif Nat.ble 139 f then (bif Nat.ble 140 f then (bif Nat.ble 141 f then (bif Nat.beq id 4 then some [0, 6, 7, 8, 9] else bif Nat.beq id 8 then some [0, 6, 7, 10] else none) else (bif Nat.beq id 1 then some [0, 1, 2, 6] else bif Nat.beq id 4 then some [0, 1, 2, 6, 7] else none)) else none) else none)))) else (bif Nat.ble 114 f then (bif Nat.ble 125 f then (bif Nat.ble 131 f then (bif Nat.ble 134 f then (bif Nat.ble 135 f then none else (bif Nat.beq id 3 then some [0, 1, 4, 12, 13] else bif Nat.beq id 5 then some [0, 1, 4, 12, 13] else bif Nat.beq id 13 then some [0, 1, 4, 12, 13] else bif Nat.beq id 15 then some [0, 1, 4, 12, 13] else none)) else (bif Nat.ble 132 f then (bif Nat.ble 133 f then (bif Nat.beq id 3 then some [0, 1, 4, 11, 12] else bif Nat.beq id 5 then some [0, 1, 4, 11, 12] else none) else (bif Nat.beq id 3 then some [0, 1, 2, 3, 9, 10] else bif Nat.beq id 5 then some [0, 1, 2, 3, 9, 10] else bif Nat.beq id 14 then some [0, 1, 2, 3, 9, 10, 11] else bif Nat.beq id 20 then some [0, 1, 2, 3, 9, 10, 12] else none)) else (bif Nat.beq id 2 then some [0, 8, 9] else none))) else (bif Nat.ble 128 f then (bif Nat.ble 129 f then (bif Nat.ble 130 f then none else (bif Nat.beq id 5 then some [0, 1, 8, 9, 10, 11] else none)) else (bif Nat.beq id 4 then some [0, 3, 8, 9, 10, 11] else bif Nat.beq id 8 then some [0, 3, 8, 9, 12] else none)) else (bif Nat.ble 126 f then (bif Nat.ble 127 f then (bif Nat.beq id 1 then some [0, 1, 2, 3, 8] else bif Nat.beq id 4 then some [0, 1, 2, 3, 8, 9] else none) else none) else none))) else (bif Nat.ble 119 f then (bif Nat.ble 122 f then (bif Nat.ble 123 f then (bif Nat.ble 124 f then none else (bif Nat.beq id 4 then some [3, 6, 7, 16, 17] else none)) else none) else (bif Nat.ble 120 f then (bif Nat.ble 121 f then (bif Nat.beq id 10 then some [3] else none) else none) else none)) else (bif Nat.ble 116 f then (bif Nat.ble 117 f then (bif Nat.ble 118 f then (bif Nat.beq id 2 then some [0, 1, 2, 3, 8, 9] else none) else (bif Nat.beq id 3 then some [0, 3, 9, 10, 11] else bif Nat.beq id 11 then some [6, 25, 26, 27] else none)) else none) else (bif Nat.ble 115 f then none else (bif Nat.beq id 2 then some [0, 1, 7, 8] else none))))) else (bif Nat.ble 102 f then (bif Nat.ble 108 f then (bif Nat.ble 111 f then (bif Nat.ble 112 f then none else (bif Nat.beq id 2 then some [0, 1, 2, 3, 4, 10, 11] else none)) else (bif Nat.ble 109 f then none else (bif Nat.beq id 2 then some [0, 1, 7, 8] else none))) else (bif Nat.ble 105 f then none else (bif Nat.ble 103 f then (bif Nat.ble 104 f then none else (bif Nat.beq id 4 then some [0, 3] else none)) else none))) else (bif Nat.ble 96 f then (bif Nat.ble 99 f then (bif Nat.ble 100 f then (bif Nat.ble 101 f then (bif Nat.beq id 3 then some [0, 3, 7, 8] else none) else (bif Nat.beq id 4 then some [0, 24] else none)) else (bif Nat.beq id 4 then some [0, 3] else bif Nat.beq id 9 then some [0, 3, 4, 5] else none)) else (bif Nat.ble 97 f then (bif Nat.ble 98 f then none else (bif Nat.beq id 8 then some [3, 20, 21, 22] else none)) else none)) else (bif Nat.ble 93 f then (bif Nat.ble 94 f then (bif Nat.ble 95 f then (bif Nat.beq id 2 then some [0, 1, 7, 8] else none) else none) else (bif Nat.beq id 3 then some [5, 10, 11, 12] else none)) else (bif Nat.ble 92 f then (bif Nat.beq id 2 then some [0, 3, 7, 8] else none) else none)))))) else (bif Nat.ble 45 f then (bif Nat.ble 68 f then (bif Nat.ble 79 f then (bif Nat.ble 85 f then (bif Nat.ble 88 f then (bif Nat.ble 89 f then (bif Nat.ble 90 f then none else (bif Nat.beq id 2 then some [0, 1, 7, 8] else none)) else (bif Nat.beq id 2 then some [0, 1, 7, 8] else none)) else (bif Nat.ble 86 f then (bif Nat.ble 87 f then none else (bif Nat.beq id 3 then some [0, 2, 7, 14, 15, 16] else none)) else (bif Nat.beq id 11 then some [0, 5, 6, 46, 47, 48] else none))) else (bif Nat.ble 82 f then (bif Nat.ble 83 f then none else (bif Nat.beq id 4 then some [0, 3] else bif Nat.beq id 9 then some [0, 3, 4, 5] else none)) else (bif Nat.ble 80 f then (bif Nat.ble 81 f then (bif Nat.beq id 2 then some [0, 1, 9, 10, 11] else none) else none) else none))) else (bif Nat.ble 73 f then (bif Nat.ble 76 f then (bif Nat.ble 77 f then (bif Nat.ble 78 f then none else (bif Nat.beq id 3 then some [0, 1, 6, 7, 8] else none)) else none) else (bif Nat.ble 74 f then (bif Nat.ble 75 f then none else (bif Nat.beq id 4 then some [0, 7, 8, 9] else bif Nat.beq id 6 then some [0, 7, 8, 9, 22, 23, 24] else none)) else none)) else (bif Nat.ble 70 f then (bif Nat.ble 71 f then (bif Nat.ble 72 f then (bif Nat.beq id 4 then some [1, 2, 5, 6, 14, 15] else none) else none) else none) else (bif Nat.ble 69 f then (bif Nat.beq id 4 then some [0, 1, 5, 6, 9, 10] else none) else (bif Nat.beq id 6 then some [1, 3, 24, 25] else none))))) else (bif Nat.ble 56 f then (bif Nat.ble 62 f then (bif Nat.ble 65 f then (bif Nat.ble 66 f then (bif Nat.ble 67 f then none else (bif Nat.beq id 2 then some [0, 1, 7, 8] else none)) else none) else (bif Nat.ble 63 f then (bif Nat.ble 64 f then none else (bif Nat.beq id 2 then some [1, 9, 10, 11] else bif Nat.beq id 5 then some [1, 5, 9, 10, 11, 16, 17, 18] else none)) else (bif Nat.beq id 2 then some [0, 1, 7, 8] else none))) else (bif Nat.ble 59 f then none else (bif Nat.ble 57 f then (bif Nat.ble 58 f then none else (bif Nat.beq id 4 then some [2, 3, 22, 23] else none)) else none))) else (bif Nat.ble 50 f then (bif Nat.ble 53 f then (bif Nat.ble 54 f then none else (bif Nat.beq id 3 then some [1, 5, 9, 10, 11] else none)) else (bif Nat.ble 51 f then (bif Nat.ble 52 f then (bif Nat.beq id 3 then some [1, 5, 9, 10, 11] else none) else none) else none)) else (bif Nat.ble 47 f then (bif Nat.ble 48 f then (bif Nat.ble 49 f then none else (bif Nat.beq id 3 then some [7, 15, 16, 17] else none)) else none) else (bif Nat.ble 46 f then (bif Nat.beq id 4 then some [3, 4, 12, 13, 14] else none) else (bif Nat.beq id 8 then some [1, 2, 7, 32, 33, 34] else none)))))) else (bif Nat.ble 22 f then (bif Nat.ble 33 f then (bif Nat.ble 39 f then (bif Nat.ble 42 f then (bif Nat.ble 43 f then (bif Nat.ble 44 f then none else (bif Nat.beq id 8 then some [1, 4, 56, 57] else none)) else (bif Nat.beq id 4 then some [1, 16, 17] else none)) else (bif Nat.ble 40 f then (bif Nat.ble 41 f then (bif Nat.beq id 3 then some [0, 1, 5, 9, 10] else bif Nat.beq id 8 then some [0, 5, 21, 22] else none) else (bif Nat.beq id 3 then some [1, 3, 7, 8] else none)) else (bif Nat.beq id 4 then some [0, 1, 12, 13] else none))) else (bif Nat.ble 36 f then none else (bif Nat.ble 34 f then (bif Nat.ble 35 f then (bif Nat.beq id 3 then some [3, 11, 12, 13] else none) else (bif Nat.beq id 4 then some [2, 3, 22, 23] else none)) else none))) else (bif Nat.ble 27 f then (bif Nat.ble 30 f then (bif Nat.ble 31 f then none else (bif Nat.beq id 7 then some [3, 4, 5, 9, 10, 11, 33, 34, 35] else none)) else (bif Nat.ble 28 f then (bif Nat.ble 29 f then none else (bif Nat.beq id 3 then some [0, 3, 7, 8, 9] else none)) else (bif Nat.beq id 6 then some [1, 3, 4, 5] else bif Nat.beq id 9 then some [1, 3, 4, 5, 35, 36, 37] else bif Nat.beq id 14 then some [1, 3, 4, 5, 8, 35, 36, 37, 59, 60, 61] else none))) else (bif Nat.ble 24 f then (bif Nat.ble 25 f then (bif Nat.ble 26 f then (bif Nat.beq id 5 then some [3, 4, 5, 6, 20, 21, 22] else bif Nat.beq id 13 then some [3, 4, 5, 6, 9, 44, 45, 46] else none) else (bif Nat.beq id 5 then some [2, 3, 7, 25, 26] else bif Nat.beq id 11 then some [2, 3, 7, 9, 25, 26, 48, 49] else none)) else (bif Nat.beq id 3 then some [2, 4, 13, 14, 15] else none)) else (bif Nat.ble 23 f then (bif Nat.beq id 5 then some [1, 3, 18, 19] else none) else (bif Nat.beq id 2 then some [0, 1, 7, 8] else none))))) else (bif Nat.ble 11 f then (bif Nat.ble 16 f then (bif Nat.ble 19 f then (bif Nat.ble 20 f then (bif Nat.ble 21 f then (bif Nat.beq id 3 then some [1, 3, 11, 12] else none) else (bif Nat.beq id 4 then some [2, 3, 32, 33] else none)) else (bif Nat.beq id 2 then some [1, 2, 8, 9] else none)) else (bif Nat.ble 17 f then (bif Nat.ble 18 f then none else (bif Nat.beq id 3 then some [3, 4] else none)) else (bif Nat.beq id 4 then some [2, 3, 23, 24] else none))) else (bif Nat.ble 13 f then (bif Nat.ble 14 f then (bif Nat.ble 15 f then (bif Nat.beq id 10 then some [2, 4, 6, 8, 63, 64, 65] else bif Nat.beq id 13 then some [2, 4, 6, 8, 10, 63, 64, 65, 70, 71, 72] else bif Nat.beq id 21 then some [4, 8, 13, 94, 95, 96] else none) else (bif Nat.beq id 4 then some [1, 17, 18] else bif Nat.beq id 7 then some [1, 3, 17, 18, 27, 28] else none)) else none) else none)) else (bif Nat.ble 5 f then (bif Nat.ble 8 f then (bif Nat.ble 9 f then (bif Nat.ble 10 f then none else (bif Nat.beq id 3 then some [1, 2, 5, 6] else none)) else (bif Nat.beq id 3 then some [1, 5, 16, 17, 18] else none)) else (bif Nat.ble 6 f then none else (bif Nat.beq id 9 then some [2, 5, 7, 8, 37, 38] else bif Nat.beq id 18 then some [2, 5, 7, 8, 9, 10, 11, 37, 38, 97, 98] else bif Nat.beq id 24 then some [2, 5, 7, 8, 9, 10, 11, 13, 37, 38] else bif Nat.beq id 32 then some [2, 5, 7, 8, 9, 10, 11, 13, 14, 37, 38, 173, 174] else none))) else (bif Nat.ble 2 f then (bif Nat.ble 3 f then (bif Nat.ble 4 f then (bif Nat.beq id 10 then some [2, 5, 8, 9, 39, 40] else bif Nat.beq id 16 then some [2, 5, 8, 9, 64, 65] else bif Nat.beq id 26 then some [2, 5, 8, 9, 12, 64, 65, 97, 98] else none) else (bif Nat.beq id 8 then some [0, 5, 6, 9, 10, 11, 12, 85, 86] else bif Nat.beq id 14 then some [0, 5, 6, 9, 10, 103, 104, 105] else bif Nat.beq id 17 then some [0, 5, 6, 9, 10, 15, 16, 103, 104, 105] else none)) else none) else none))))))
def fzt (f : FuncId) : Option (List Nat) := (bif Nat.ble 91 f then (bif Nat.ble 137 f then (bif Nat.ble 160 f then none else (bif Nat.ble 148 f then (bif Nat.ble 154 f then (bif Nat.ble 157 f then (bif Nat.ble 158 f then (bif Nat.ble 159 f then (some [10]) else none) else none) else none) else (bif Nat.ble 151 f then none else (bif Nat.ble 149 f then (bif Nat.ble 150 f then (some [7, 45]) else none) else none))) else (bif Nat.ble 142 f then (bif Nat.ble 145 f then none else (bif Nat.ble 143 f then none else (some [7]))) else none))) else (bif Nat.ble 114 f then (bif Nat.ble 125 f then (bif Nat.ble 131 f then none else (bif Nat.ble 128 f then (bif Nat.ble 129 f then (bif Nat.ble 130 f then none else (some [9])) else none) else (bif Nat.ble 126 f then none else (some [2])))) else (bif Nat.ble 119 f then (bif Nat.ble 122 f then (bif Nat.ble 123 f then (bif Nat.ble 124 f then (some [2]) else none) else (some [7])) else (bif Nat.ble 120 f then (bif Nat.ble 121 f then (some [1]) else none) else none)) else (bif Nat.ble 116 f then (bif Nat.ble 117 f then none else (some [5])) else none))) else (bif Nat.ble 102 f then (bif Nat.ble 108 f then none else (bif Nat.ble 105 f then (bif Nat.ble 106 f then (bif Nat.ble 107 f then (some [2, 3, 5]) else none) else (some [7, 15])) else (bif Nat.ble 103 f then (bif Nat.ble 104 f then (some [1]) else none) else (some [1])))) else (bif Nat.ble 96 f then (bif Nat.ble 99 f then none else (bif Nat.ble 97 f then (bif Nat.ble 98 f then none else (some [1, 5, 15, 32])) else (some [2]))) else (bif Nat.ble 93 f then (bif Nat.ble 94 f then (bif Nat.ble 95 f then none else (some [1, 12, 13])) else (some [7, 22])) else (bif Nat.ble 92 f then (some [3]) else none)))))) else (bif Nat.ble 45 f then (bif Nat.ble 68 f then (bif Nat.ble 79 f then (bif Nat.ble 85 f then (bif Nat.ble 88 f then none else (bif Nat.ble 86 f then (bif Nat.ble 87 f then none else (some [9, 45])) else (some [23, 62]))) else (bif Nat.ble 82 f then (bif Nat.ble 83 f then (bif Nat.ble 84 f then (some [1]) else none) else none) else none)) else (bif Nat.ble 73 f then (bif Nat.ble 76 f then (bif Nat.ble 77 f then (bif Nat.ble 78 f then (some [5, 19]) else none) else (some [2])) else (bif Nat.ble 74 f then (bif Nat.ble 75 f then none else (some [11, 44])) else (some [1]))) else (bif Nat.ble 70 f then (bif Nat.ble 71 f then (bif Nat.ble 72 f then (some [2]) else (some [1])) else none) else (bif Nat.ble 69 f then (some [25, 38, 45]) else (some [1, 17, 42]))))) else (bif Nat.ble 56 f then (bif Nat.ble 62 f then (bif Nat.ble 65 f then none else (bif Nat.ble 63 f then (bif Nat.ble 64 f then (some [3, 7]) else (some [2, 5])) else none)) else (bif Nat.ble 59 f then (bif Nat.ble 60 f then (bif Nat.ble 61 f then (some [1]) else none) else (some [3])) else (bif Nat.ble 57 f then (bif Nat.ble 58 f then none else (some [2, 3])) else (some [2])))) else (bif Nat.ble 50 f then (bif Nat.ble 53 f then (bif Nat.ble 54 f then (bif Nat.ble 55 f then (some [2]) else (some [3])) else (some [2, 7, 30])) else (bif Nat.ble 51 f then (bif Nat.ble 52 f then (some [2, 7]) else none) else none)) else (bif Nat.ble 47 f then (bif Nat.ble 48 f then (bif Nat.ble 49 f then none else (some [25])) else (some [1])) else (bif Nat.ble 46 f then (some [1, 3, 6, 7]) else (some [1])))))) else (bif Nat.ble 22 f then (bif Nat.ble 33 f then (bif Nat.ble 39 f then (bif Nat.ble 42 f then (bif Nat.ble 43 f then (bif Nat.ble 44 f then (some [1]) else (some [1])) else (some [1])) else (bif Nat.ble 40 f then (bif Nat.ble 41 f then none else (some [1])) else none)) else (bif Nat.ble 36 f then none else (bif Nat.ble 34 f then (bif Nat.ble 35 f then (some [1, 5, 21]) else (some [2, 3])) else (some [2])))) else (bif Nat.ble 27 f then (bif Nat.ble 30 f then (bif Nat.ble 31 f then (bif Nat.ble 32 f then none else (some [2])) else (some [3, 4, 5, 8, 13, 15, 86, 29, 1000029])) else (bif Nat.ble 28 f then (bif Nat.ble 29 f then (some [3, 4]) else (some [5, 26])) else (some [1, 7, 10, 90]))) else (bif Nat.ble 24 f then (bif Nat.ble 25 f then (bif Nat.ble 26 f then (some [1, 3, 8, 68]) else (some [3, 9])) else (some [1, 6, 7, 31])) else (bif Nat.ble 23 f then (some [1]) else none)))) else (bif Nat.ble 11 f then (bif Nat.ble 16 f then (bif Nat.ble 19 f then (bif Nat.ble 20 f then (bif Nat.ble 21 f then (some [1]) else (some [2, 3])) else (some [2])) else (bif Nat.ble 17 f then (bif Nat.ble 18 f then none else (some [1])) else (some [2, 3]))) else (bif Nat.ble 13 f then (bif Nat.ble 14 f then (bif Nat.ble 15 f then (some [2, 7, 10, 12, 15, 109]) else (some [1])) else (some [3])) else (bif Nat.ble 12 f then (some [3]) else (some [3])))) else (bif Nat.ble 5 f then (bif Nat.ble 8 f then (bif Nat.ble 9 f then (bif Nat.ble 10 f then (some [3]) else (some [2, 30])) else (some [2, 7, 29])) else (bif Nat.ble 6 f then (bif Nat.ble 7 f then (some [3, 4, 10, 13, 16, 18, 20]) else (some [2, 5, 7, 9])) else (some [2, 5, 10, 14]))) else (bif Nat.ble 2 f then (bif Nat.ble 3 f then (bif Nat.ble 4 f then (some [2, 5, 7, 12, 14, 59]) else (some [5, 6, 7, 103])) else none) else none))))))
def md (f : FuncId) : Nat := (bif Nat.ble 91 f then (bif Nat.ble 137 f then (bif Nat.ble 160 f then (bif Nat.ble 171 f then (bif Nat.ble 177 f then (bif Nat.ble 180 f then (bif Nat.ble 181 f then (bif Nat.ble 182 f then 3 else 0) else 0) else (bif Nat.ble 178 f then (bif Nat.ble 179 f then 3 else 0) else 0)) else (bif Nat.ble 174 f then (bif Nat.ble 175 f then (bif Nat.ble 176 f then 0 else 0) else 0) else (bif Nat.ble 172 f then (bif Nat.ble 173 f then 0 else 3) else 0))) else (bif Nat.ble 165 f then (bif Nat.ble 168 f then (bif Nat.ble 169 f then (bif Nat.ble 170 f then 3 else 0) else 3) else (bif Nat.ble 166 f then (bif Nat.ble 167 f then 0 else 3) else 3)) else 3)) else (bif Nat.ble 148 f then (bif Nat.ble 154 f then (bif Nat.ble 157 f then 3 else (bif Nat.ble 155 f then (bif Nat.ble 156 f then 0 else 3) else 3)) else (bif Nat.ble 151 f then (bif Nat.ble 152 f then (bif Nat.ble 153 f then 0 else 3) else 0) else (bif Nat.ble 149 f then (bif Nat.ble 150 f then 1 else 3) else 3))) else (bif Nat.ble 142 f then (bif Nat.ble 145 f then 3 else (bif Nat.ble 143 f then (bif Nat.ble 144 f then 0 else 3) else 0)) else (bif Nat.ble 139 f then (bif Nat.ble 140 f then (bif Nat.ble 141 f then 0 else 0) else 0) else (bif Nat.ble 138 f then 0 else 3))))) else (bif Nat.ble 114 f then (bif Nat.ble 125 f then (bif Nat.ble 131 f then (bif Nat.ble 134 f then 3 else (bif Nat.ble 132 f then 3 else 0)) else (bif Nat.ble 128 f then (bif Nat.ble 129 f then (bif Nat.ble 130 f then 3 else 0) else 0) else (bif Nat.ble 126 f then (bif Nat.ble 127 f then 0 else 3) else 3))) else (bif Nat.ble 119 f then 3 else (bif Nat.ble 116 f then (bif Nat.ble 117 f then (bif Nat.ble 118 f then 0 else 3) else 0) else (bif Nat.ble 115 f then 0 else 3)))) else (bif Nat.ble 102 f then (bif Nat.ble 108 f then (bif Nat.ble 111 f then (bif Nat.ble 112 f then 3 else 0) else 3) else 3) else (bif Nat.ble 96 f then (bif Nat.ble 99 f then (bif Nat.ble 100 f then 3 else 0) else (bif Nat.ble 97 f then (bif Nat.ble 98 f then 0 else 3) else 3)) else (bif Nat.ble 93 f then (bif Nat.ble 94 f then (bif Nat.ble 95 f then 3 else 1) else 0) else (bif Nat.ble 92 f then 3 else 0)))))) else (bif Nat.ble 45 f then (bif Nat.ble 68 f then (bif Nat.ble 79 f then (bif Nat.ble 85 f then (bif Nat.ble 88 f then (bif Nat.ble 89 f then (bif Nat.ble 90 f then 0 else 3) else 0) else (bif Nat.ble 86 f then (bif Nat.ble 87 f then 3 else 1) else 3)) else (bif Nat.ble 82 f then (bif Nat.ble 83 f then 3 else 0) else (bif Nat.ble 80 f then 3 else 0))) else (bif Nat.ble 73 f then (bif Nat.ble 76 f then (bif Nat.ble 77 f then (bif Nat.ble 78 f then 0 else 3) else 3) else (bif Nat.ble 74 f then (bif Nat.ble 75 f then 3 else 1) else 3)) else (bif Nat.ble 70 f then 3 else (bif Nat.ble 69 f then 0 else 3)))) else (bif Nat.ble 56 f then (bif Nat.ble 62 f then (bif Nat.ble 65 f then (bif Nat.ble 66 f then 3 else 0) else (bif Nat.ble 63 f then (bif Nat.ble 64 f then 0 else 0) else 3)) else (bif Nat.ble 59 f then (bif Nat.ble 60 f then (bif Nat.ble 61 f then 3 else 1) else 3) else 3)) else (bif Nat.ble 50 f then (bif Nat.ble 53 f then (bif Nat.ble 54 f then (bif Nat.ble 55 f then 1 else 3) else 1) else (bif Nat.ble 51 f then 3 else 0)) else (bif Nat.ble 47 f then (bif Nat.ble 48 f then (bif Nat.ble 49 f then 0 else 3) else 3) else (bif Nat.ble 46 f then 3 else 1))))) else (bif Nat.ble 22 f then (bif Nat.ble 33 f then (bif Nat.ble 39 f then (bif Nat.ble 42 f then 3 else (bif Nat.ble 40 f then (bif Nat.ble 41 f then 0 else 3) else 3)) else 3) else (bif Nat.ble 27 f then (bif Nat.ble 30 f then (bif Nat.ble 31 f then 3 else 1) else 3) else (bif Nat.ble 24 f then (bif Nat.ble 25 f then 3 else 1) else 3))) else (bif Nat.ble 11 f then (bif Nat.ble 16 f then 3 else (bif Nat.ble 13 f then (bif Nat.ble 14 f then (bif Nat.ble 15 f then 1 else 3) else 3) else 3)) else (bif Nat.ble 5 f then 3 else (bif Nat.ble 2 f then (bif Nat.ble 3 f then 3 else 0) else (bif Nat.ble 1 f then 0 else 0)))))))
def dy (f : FuncId) (id : Nat) : Bool := (f == 3 && id == 3) || (f == 20 && id == 6) || (f == 21 && id == 5) || false
def rst (f id : Nat) : Option (List Nat) := none
def us (f : FuncId) : Bool := true
def cf0 : Cfg := { prim := fun _ => none, mode := md, use := us, dyn := dy, keep := fun f id => bif Nat.beq id 1000000 then fzt f else bif Nat.ble 2000000 id then rst f id else kp f id }
def cloner (f : FuncId) : Bool := Nat.beq f 116
noncomputable def prims : FuncId → Option (List AV → List Blk → Option (AV × List Blk)) := fun f => if cloner f = true then some (clonePrim Tryz.prog cf0 f) else if Nat.beq f 98 = true then some sortPrim else if Nat.beq f 99 = true then some compactPrim else if Nat.beq f 79 = true then some (sortFPrim 80) else none
noncomputable def cf : Cfg := { prim := prims, mode := md, use := us, dyn := dy, keep := fun f id => bif Nat.beq id 1000000 then fzt f else bif Nat.ble 2000000 id then rst f id else kp f id }
theorem cf_dyn {f id : Nat} : cf.dyn f id = dy f id := rfl
theorem cf0_dyn {f id : Nat} : cf0.dyn f id = dy f id := rfl
variable {H : List Blk} {k : Nat} {strict : Bool} {caps args : List AV}
theorem fz5 : (cf.keep 5 1000000).getD [] = [2, 5, 10, 14] := rfl
theorem dy5 {id : Nat} : dy 5 id = false := rfl
theorem cl7 : callR Tryz.prog (acall cf.mode strict (arun Tryz.prog cf k)) H (.fn 7 caps) args = ((amap (rb H depth) (args ++ caps)).bind (val Tryz.prog cf k 7)).map fun y => (y, H) := callR_3 rfl (noExt_of Tryz.func7 rfl)
theorem fz8 : (cf.keep 8 1000000).getD [] = [2, 7, 29] := rfl
theorem dy8 {id : Nat} : dy 8 id = false := rfl
theorem cl8 : callR Tryz.prog (acall cf.mode strict (arun Tryz.prog cf k)) H (.fn 8 caps) args = ((amap (rb H depth) (args ++ caps)).bind (val Tryz.prog cf k 8)).map fun y => (y, H) := callR_3 rfl (noExt_of Tryz.func8 rfl)
theorem fz10 : (cf.keep 10 1000000).getD [] = [3] := rfl
theorem dy10 {id : Nat} : dy 10 id = false := rfl
theorem cl10 : callR Tryz.prog (acall cf.mode strict (arun Tryz.prog cf k)) H (.fn 10 caps) args = ((amap (rb H depth) (args ++ caps)).bind (val Tryz.prog cf k 10)).map fun y => (y, H) := callR_3 rfl (noExt_of Tryz.func10 rfl)
theorem fz12 : (cf.keep 12 1000000).getD [] = [3] := rfl
theorem dy12 {id : Nat} : dy 12 id = false := rfl
theorem cl12 : callR Tryz.prog (acall cf.mode strict (arun Tryz.prog cf k)) H (.fn 12 caps) args = ((amap (rb H depth) (args ++ caps)).bind (val Tryz.prog cf k 12)).map fun y => (y, H) := callR_3 rfl (noExt_of Tryz.func12 rfl)
theorem fz14 : (cf.keep 14 1000000).getD [] = [1] := rfl
theorem dy14 {id : Nat} : dy 14 id = false := rfl
theorem cl14 : callR Tryz.prog (acall cf.mode strict (arun Tryz.prog cf k)) H (.fn 14 caps) args = ((amap (rb H depth) (args ++ caps)).bind (val Tryz.prog cf k 14)).map fun y => (y, H) := callR_3 rfl (noExt_of Tryz.func14 rfl)
theorem fz15 : (cf.keep 15 1000000).getD [] = [2, 7, 10, 12, 15, 109] := rfl
theorem dy15 {id : Nat} : dy 15 id = false := rfl
theorem cl15 : callR Tryz.prog (acall cf.mode strict (arun Tryz.prog cf k)) H (.fn 15 caps) args = if (args ++ caps).all (pv depth) = true then ((amap (rb H depth) (args ++ caps)).bind (valD Tryz.prog cf k 15)).map (fun y => (y, H)) else none := callR_1 rfl (noExt_of Tryz.func15 rfl)
theorem fz17 : (cf.keep 17 1000000).getD [] = [1] := rfl
theorem dy17 {id : Nat} : dy 17 id = false := rfl
theorem cl17 : callR Tryz.prog (acall cf.mode strict (arun Tryz.prog cf k)) H (.fn 17 caps) args = ((amap (rb H depth) (args ++ caps)).bind (val Tryz.prog cf k 17)).map fun y => (y, H) := callR_3 rfl (noExt_of Tryz.func17 rfl)
theorem fz20 : (cf.keep 20 1000000).getD [] = [2, 3] := rfl
theorem rs20_6 : cf.keep 20 2000006 = none := rfl
theorem dy20 {id : Nat} : dy 20 id = (id == 6) := by unfold dy; simp
theorem cl20 : callR Tryz.prog (acall cf.mode strict (arun Tryz.prog cf k)) H (.fn 20 caps) args = ((amap (rb H depth) (args ++ caps)).bind (val Tryz.prog cf k 20)).map fun y => (y, H) := callR_3 rfl (noExt_of Tryz.func20 rfl)
theorem fz21 : (cf.keep 21 1000000).getD [] = [1] := rfl
theorem rs21_5 : cf.keep 21 2000005 = none := rfl
theorem dy21 {id : Nat} : dy 21 id = (id == 5) := by unfold dy; simp
theorem cl21 : callR Tryz.prog (acall cf.mode strict (arun Tryz.prog cf k)) H (.fn 21 caps) args = ((amap (rb H depth) (args ++ caps)).bind (val Tryz.prog cf k 21)).map fun y => (y, H) := callR_3 rfl (noExt_of Tryz.func21 rfl)
theorem fz22 : (cf.keep 22 1000000).getD [] = [] := rfl
theorem dy22 {id : Nat} : dy 22 id = false := rfl
theorem cl22 : callR Tryz.prog (acall cf.mode strict (arun Tryz.prog cf k)) H (.fn 22 caps) args = ((amap (rb H depth) (args ++ caps)).bind (val Tryz.prog cf k 22)).map fun y => (y, H) := callR_3 rfl (noExt_of Tryz.func22 rfl)
theorem fz25 : (cf.keep 25 1000000).getD [] = [3, 9] := rfl
theorem dy25 {id : Nat} : dy 25 id = false := rfl
theorem cl25 : callR Tryz.prog (acall cf.mode strict (arun Tryz.prog cf k)) H (.fn 25 caps) args = ((amap (rb H depth) (args ++ caps)).bind (val Tryz.prog cf k 25)).map fun y => (y, H) := callR_3 rfl (noExt_of Tryz.func25 rfl)
theorem fz26 : (cf.keep 26 1000000).getD [] = [1, 3, 8, 68] := rfl
theorem dy26 {id : Nat} : dy 26 id = false := rfl
theorem cl26 : callR Tryz.prog (acall cf.mode strict (arun Tryz.prog cf k)) H (.fn 26 caps) args = ((amap (rb H depth) (args ++ caps)).bind (val Tryz.prog cf k 26)).map fun y => (y, H) := callR_3 rfl (noExt_of Tryz.func26 rfl)
theorem fz27 : (cf.keep 27 1000000).getD [] = [1, 7, 10, 90] := rfl
theorem dy27 {id : Nat} : dy 27 id = false := rfl
theorem cl27 : callR Tryz.prog (acall cf.mode strict (arun Tryz.prog cf k)) H (.fn 27 caps) args = ((amap (rb H depth) (args ++ caps)).bind (val Tryz.prog cf k 27)).map fun y => (y, H) := callR_3 rfl (noExt_of Tryz.func27 rfl)
theorem fz28 : (cf.keep 28 1000000).getD [] = [5, 26] := rfl
theorem dy28 {id : Nat} : dy 28 id = false := rfl
theorem cl28 : callR Tryz.prog (acall cf.mode strict (arun Tryz.prog cf k)) H (.fn 28 caps) args = ((amap (rb H depth) (args ++ caps)).bind (val Tryz.prog cf k 28)).map fun y => (y, H) := callR_3 rfl (noExt_of Tryz.func28 rfl)
theorem fz29 : (cf.keep 29 1000000).getD [] = [3, 4] := rfl
theorem dy29 {id : Nat} : dy 29 id = false := rfl
theorem cl29 : callR Tryz.prog (acall cf.mode strict (arun Tryz.prog cf k)) H (.fn 29 caps) args = ((amap (rb H depth) (args ++ caps)).bind (val Tryz.prog cf k 29)).map fun y => (y, H) := callR_3 rfl (noExt_of Tryz.func29 rfl)
theorem fz30 : (cf.keep 30 1000000).getD [] = [3, 4, 5, 8, 13, 15, 86, 29, 1000029] := rfl
theorem dy30 {id : Nat} : dy 30 id = false := rfl
theorem cl30 : callR Tryz.prog (acall cf.mode strict (arun Tryz.prog cf k)) H (.fn 30 caps) args = if (args ++ caps).all (pv depth) = true then ((amap (rb H depth) (args ++ caps)).bind (valD Tryz.prog cf k 30)).map (fun y => (y, H)) else none := callR_1 rfl (noExt_of Tryz.func30 rfl)
theorem fz31 : (cf.keep 31 1000000).getD [] = [2] := rfl
theorem dy31 {id : Nat} : dy 31 id = false := rfl
theorem cl31 : callR Tryz.prog (acall cf.mode strict (arun Tryz.prog cf k)) H (.fn 31 caps) args = ((amap (rb H depth) (args ++ caps)).bind (val Tryz.prog cf k 31)).map fun y => (y, H) := callR_3 rfl (noExt_of Tryz.func31 rfl)
theorem fz32 : (cf.keep 32 1000000).getD [] = [] := rfl
theorem dy32 {id : Nat} : dy 32 id = false := rfl
theorem cl32 : callR Tryz.prog (acall cf.mode strict (arun Tryz.prog cf k)) H (.fn 32 caps) args = ((amap (rb H depth) (args ++ caps)).bind (val Tryz.prog cf k 32)).map fun y => (y, H) := callR_3 rfl (noExt_of Tryz.func32 rfl)
theorem fz33 : (cf.keep 33 1000000).getD [] = [2] := rfl
theorem dy33 {id : Nat} : dy 33 id = false := rfl
theorem cl33 : callR Tryz.prog (acall cf.mode strict (arun Tryz.prog cf k)) H (.fn 33 caps) args = ((amap (rb H depth) (args ++ caps)).bind (val Tryz.prog cf k 33)).map fun y => (y, H) := callR_3 rfl (noExt_of Tryz.func33 rfl)
theorem fz34 : (cf.keep 34 1000000).getD [] = [2, 3] := rfl
theorem dy34 {id : Nat} : dy 34 id = false := rfl
theorem cl34 : callR Tryz.prog (acall cf.mode strict (arun Tryz.prog cf k)) H (.fn 34 caps) args = ((amap (rb H depth) (args ++ caps)).bind (val Tryz.prog cf k 34)).map fun y => (y, H) := callR_3 rfl (noExt_of Tryz.func34 rfl)
theorem fz35 : (cf.keep 35 1000000).getD [] = [1, 5, 21] := rfl
theorem dy35 {id : Nat} : dy 35 id = false := rfl
theorem cl35 : callR Tryz.prog (acall cf.mode strict (arun Tryz.prog cf k)) H (.fn 35 caps) args = ((amap (rb H depth) (args ++ caps)).bind (val Tryz.prog cf k 35)).map fun y => (y, H) := callR_3 rfl (noExt_of Tryz.func35 rfl)
theorem fz36 : (cf.keep 36 1000000).getD [] = [] := rfl
theorem dy36 {id : Nat} : dy 36 id = false := rfl
theorem cl36 : callR Tryz.prog (acall cf.mode strict (arun Tryz.prog cf k)) H (.fn 36 caps) args = ((amap (rb H depth) (args ++ caps)).bind (val Tryz.prog cf k 36)).map fun y => (y, H) := callR_3 rfl (noExt_of Tryz.func36 rfl)
theorem fz37 : (cf.keep 37 1000000).getD [] = [] := rfl
theorem dy37 {id : Nat} : dy 37 id = false := rfl
theorem cl37 : callR Tryz.prog (acall cf.mode strict (arun Tryz.prog cf k)) H (.fn 37 caps) args = ((amap (rb H depth) (args ++ caps)).bind (val Tryz.prog cf k 37)).map fun y => (y, H) := callR_3 rfl (noExt_of Tryz.func37 rfl)
theorem fz38 : (cf.keep 38 1000000).getD [] = [] := rfl
theorem dy38 {id : Nat} : dy 38 id = false := rfl
theorem cl38 : callR Tryz.prog (acall cf.mode strict (arun Tryz.prog cf k)) H (.fn 38 caps) args = ((amap (rb H depth) (args ++ caps)).bind (val Tryz.prog cf k 38)).map fun y => (y, H) := callR_3 rfl (noExt_of Tryz.func38 rfl)
theorem fz39 : (cf.keep 39 1000000).getD [] = [] := rfl
theorem dy39 {id : Nat} : dy 39 id = false := rfl
theorem cl39 : callR Tryz.prog (acall cf.mode strict (arun Tryz.prog cf k)) H (.fn 39 caps) args = ((amap (rb H depth) (args ++ caps)).bind (val Tryz.prog cf k 39)).map fun y => (y, H) := callR_3 rfl (noExt_of Tryz.func39 rfl)
theorem fz40 : (cf.keep 40 1000000).getD [] = [1] := rfl
theorem dy40 {id : Nat} : dy 40 id = false := rfl
theorem cl40 : callR Tryz.prog (acall cf.mode strict (arun Tryz.prog cf k)) H (.fn 40 caps) args = ((amap (rb H depth) (args ++ caps)).bind (val Tryz.prog cf k 40)).map fun y => (y, H) := callR_3 rfl (noExt_of Tryz.func40 rfl)
theorem fz41 : (cf.keep 41 1000000).getD [] = [] := rfl
theorem dy41 {id : Nat} : dy 41 id = false := rfl
theorem cl41 : callR Tryz.prog (acall cf.mode strict (arun Tryz.prog cf k)) H (.fn 41 caps) args = arun Tryz.prog cf k 41 (args ++ caps) H := callR_0 rfl (noExt_of Tryz.func41 rfl)
theorem fz46 : (cf.keep 46 1000000).getD [] = [1, 3, 6, 7] := rfl
theorem dy46 {id : Nat} : dy 46 id = false := rfl
theorem cl46 : callR Tryz.prog (acall cf.mode strict (arun Tryz.prog cf k)) H (.fn 46 caps) args = ((amap (rb H depth) (args ++ caps)).bind (val Tryz.prog cf k 46)).map fun y => (y, H) := callR_3 rfl (noExt_of Tryz.func46 rfl)
theorem fz47 : (cf.keep 47 1000000).getD [] = [1] := rfl
theorem dy47 {id : Nat} : dy 47 id = false := rfl
theorem cl47 : callR Tryz.prog (acall cf.mode strict (arun Tryz.prog cf k)) H (.fn 47 caps) args = ((amap (rb H depth) (args ++ caps)).bind (val Tryz.prog cf k 47)).map fun y => (y, H) := callR_3 rfl (noExt_of Tryz.func47 rfl)
theorem fz48 : (cf.keep 48 1000000).getD [] = [25] := rfl
theorem dy48 {id : Nat} : dy 48 id = false := rfl
theorem cl48 : callR Tryz.prog (acall cf.mode strict (arun Tryz.prog cf k)) H (.fn 48 caps) args = ((amap (rb H depth) (args ++ caps)).bind (val Tryz.prog cf k 48)).map fun y => (y, H) := callR_3 rfl (noExt_of Tryz.func48 rfl)
theorem fz49 : (cf.keep 49 1000000).getD [] = [] := rfl
theorem dy49 {id : Nat} : dy 49 id = false := rfl
theorem cl49 : callR Tryz.prog (acall cf.mode strict (arun Tryz.prog cf k)) H (.fn 49 caps) args = arun Tryz.prog cf k 49 (args ++ caps) H := callR_0 rfl (noExt_of Tryz.func49 rfl)
theorem fz50 : (cf.keep 50 1000000).getD [] = [] := rfl
theorem dy50 {id : Nat} : dy 50 id = false := rfl
theorem cl50 : callR Tryz.prog (acall cf.mode strict (arun Tryz.prog cf k)) H (.fn 50 caps) args = arun Tryz.prog cf k 50 (args ++ caps) H := callR_0 rfl (noExt_of Tryz.func50 rfl)
theorem fz51 : (cf.keep 51 1000000).getD [] = [] := rfl
theorem dy51 {id : Nat} : dy 51 id = false := rfl
theorem cl51 : callR Tryz.prog (acall cf.mode strict (arun Tryz.prog cf k)) H (.fn 51 caps) args = ((amap (rb H depth) (args ++ caps)).bind (val Tryz.prog cf k 51)).map fun y => (y, H) := callR_3 rfl (noExt_of Tryz.func51 rfl)
theorem fz52 : (cf.keep 52 1000000).getD [] = [2, 7] := rfl
theorem dy52 {id : Nat} : dy 52 id = false := rfl
theorem cl52 : callR Tryz.prog (acall cf.mode strict (arun Tryz.prog cf k)) H (.fn 52 caps) args = ((amap (rb H depth) (args ++ caps)).bind (val Tryz.prog cf k 52)).map fun y => (y, H) := callR_3 rfl (noExt_of Tryz.func52 rfl)
theorem fz53 : (cf.keep 53 1000000).getD [] = [2, 7, 30] := rfl
theorem dy53 {id : Nat} : dy 53 id = false := rfl
theorem cl53 : callR Tryz.prog (acall cf.mode strict (arun Tryz.prog cf k)) H (.fn 53 caps) args = if (args ++ caps).all (pv depth) = true then ((amap (rb H depth) (args ++ caps)).bind (valD Tryz.prog cf k 53)).map (fun y => (y, H)) else none := callR_1 rfl (noExt_of Tryz.func53 rfl)
theorem fz54 : (cf.keep 54 1000000).getD [] = [3] := rfl
theorem dy54 {id : Nat} : dy 54 id = false := rfl
theorem cl54 : callR Tryz.prog (acall cf.mode strict (arun Tryz.prog cf k)) H (.fn 54 caps) args = ((amap (rb H depth) (args ++ caps)).bind (val Tryz.prog cf k 54)).map fun y => (y, H) := callR_3 rfl (noExt_of Tryz.func54 rfl)
theorem fz55 : (cf.keep 55 1000000).getD [] = [2] := rfl
theorem dy55 {id : Nat} : dy 55 id = false := rfl
theorem cl55 : callR Tryz.prog (acall cf.mode strict (arun Tryz.prog cf k)) H (.fn 55 caps) args = if (args ++ caps).all (pv depth) = true then ((amap (rb H depth) (args ++ caps)).bind (valD Tryz.prog cf k 55)).map (fun y => (y, H)) else none := callR_1 rfl (noExt_of Tryz.func55 rfl)
theorem fz56 : (cf.keep 56 1000000).getD [] = [2] := rfl
theorem dy56 {id : Nat} : dy 56 id = false := rfl
theorem cl56 : callR Tryz.prog (acall cf.mode strict (arun Tryz.prog cf k)) H (.fn 56 caps) args = ((amap (rb H depth) (args ++ caps)).bind (val Tryz.prog cf k 56)).map fun y => (y, H) := callR_3 rfl (noExt_of Tryz.func56 rfl)
theorem fz57 : (cf.keep 57 1000000).getD [] = [2, 3] := rfl
theorem dy57 {id : Nat} : dy 57 id = false := rfl
theorem cl57 : callR Tryz.prog (acall cf.mode strict (arun Tryz.prog cf k)) H (.fn 57 caps) args = ((amap (rb H depth) (args ++ caps)).bind (val Tryz.prog cf k 57)).map fun y => (y, H) := callR_3 rfl (noExt_of Tryz.func57 rfl)
theorem fz58 : (cf.keep 58 1000000).getD [] = [] := rfl
theorem dy58 {id : Nat} : dy 58 id = false := rfl
theorem cl58 : callR Tryz.prog (acall cf.mode strict (arun Tryz.prog cf k)) H (.fn 58 caps) args = ((amap (rb H depth) (args ++ caps)).bind (val Tryz.prog cf k 58)).map fun y => (y, H) := callR_3 rfl (noExt_of Tryz.func58 rfl)
theorem fz59 : (cf.keep 59 1000000).getD [] = [3] := rfl
theorem dy59 {id : Nat} : dy 59 id = false := rfl
theorem cl59 : callR Tryz.prog (acall cf.mode strict (arun Tryz.prog cf k)) H (.fn 59 caps) args = ((amap (rb H depth) (args ++ caps)).bind (val Tryz.prog cf k 59)).map fun y => (y, H) := callR_3 rfl (noExt_of Tryz.func59 rfl)
theorem fz60 : (cf.keep 60 1000000).getD [] = [] := rfl
theorem dy60 {id : Nat} : dy 60 id = false := rfl
theorem cl60 : callR Tryz.prog (acall cf.mode strict (arun Tryz.prog cf k)) H (.fn 60 caps) args = if (args ++ caps).all (pv depth) = true then ((amap (rb H depth) (args ++ caps)).bind (valD Tryz.prog cf k 60)).map (fun y => (y, H)) else none := callR_1 rfl (noExt_of Tryz.func60 rfl)
theorem fz61 : (cf.keep 61 1000000).getD [] = [1] := rfl
theorem dy61 {id : Nat} : dy 61 id = false := rfl
theorem cl61 : callR Tryz.prog (acall cf.mode strict (arun Tryz.prog cf k)) H (.fn 61 caps) args = ((amap (rb H depth) (args ++ caps)).bind (val Tryz.prog cf k 61)).map fun y => (y, H) := callR_3 rfl (noExt_of Tryz.func61 rfl)
theorem fz62 : (cf.keep 62 1000000).getD [] = [] := rfl
theorem dy62 {id : Nat} : dy 62 id = false := rfl
theorem cl62 : callR Tryz.prog (acall cf.mode strict (arun Tryz.prog cf k)) H (.fn 62 caps) args = ((amap (rb H depth) (args ++ caps)).bind (val Tryz.prog cf k 62)).map fun y => (y, H) := callR_3 rfl (noExt_of Tryz.func62 rfl)
theorem fz63 : (cf.keep 63 1000000).getD [] = [2, 5] := rfl
theorem dy63 {id : Nat} : dy 63 id = false := rfl
theorem cl63 : callR Tryz.prog (acall cf.mode strict (arun Tryz.prog cf k)) H (.fn 63 caps) args = arun Tryz.prog cf k 63 (args ++ caps) H := callR_0 rfl (noExt_of Tryz.func63 rfl)
theorem fz64 : (cf.keep 64 1000000).getD [] = [3, 7] := rfl
theorem dy64 {id : Nat} : dy 64 id = false := rfl
theorem cl64 : callR Tryz.prog (acall cf.mode strict (arun Tryz.prog cf k)) H (.fn 64 caps) args = arun Tryz.prog cf k 64 (args ++ caps) H := callR_0 rfl (noExt_of Tryz.func64 rfl)
theorem fz65 : (cf.keep 65 1000000).getD [] = [] := rfl
theorem dy65 {id : Nat} : dy 65 id = false := rfl
theorem cl65 : callR Tryz.prog (acall cf.mode strict (arun Tryz.prog cf k)) H (.fn 65 caps) args = arun Tryz.prog cf k 65 (args ++ caps) H := callR_0 rfl (noExt_of Tryz.func65 rfl)
theorem fz66 : (cf.keep 66 1000000).getD [] = [] := rfl
theorem dy66 {id : Nat} : dy 66 id = false := rfl
theorem cl66 : callR Tryz.prog (acall cf.mode strict (arun Tryz.prog cf k)) H (.fn 66 caps) args = ((amap (rb H depth) (args ++ caps)).bind (val Tryz.prog cf k 66)).map fun y => (y, H) := callR_3 rfl (noExt_of Tryz.func66 rfl)
theorem fz67 : (cf.keep 67 1000000).getD [] = [] := rfl
theorem dy67 {id : Nat} : dy 67 id = false := rfl
theorem cl67 : callR Tryz.prog (acall cf.mode strict (arun Tryz.prog cf k)) H (.fn 67 caps) args = ((amap (rb H depth) (args ++ caps)).bind (val Tryz.prog cf k 67)).map fun y => (y, H) := callR_3 rfl (noExt_of Tryz.func67 rfl)
theorem fz68 : (cf.keep 68 1000000).getD [] = [1, 17, 42] := rfl
theorem dy68 {id : Nat} : dy 68 id = false := rfl
theorem cl68 : callR Tryz.prog (acall cf.mode strict (arun Tryz.prog cf k)) H (.fn 68 caps) args = ((amap (rb H depth) (args ++ caps)).bind (val Tryz.prog cf k 68)).map fun y => (y, H) := callR_3 rfl (noExt_of Tryz.func68 rfl)
theorem fz69 : (cf.keep 69 1000000).getD [] = [25, 38, 45] := rfl
theorem dy69 {id : Nat} : dy 69 id = false := rfl
theorem cl69 : callR Tryz.prog (acall cf.mode strict (arun Tryz.prog cf k)) H (.fn 69 caps) args = arun Tryz.prog cf k 69 (args ++ caps) H := callR_0 rfl (noExt_of Tryz.func69 rfl)
theorem fz77 : (cf.keep 77 1000000).getD [] = [] := rfl
theorem dy77 {id : Nat} : dy 77 id = false := rfl
theorem cl77 : callR Tryz.prog (acall cf.mode strict (arun Tryz.prog cf k)) H (.fn 77 caps) args = ((amap (rb H depth) (args ++ caps)).bind (val Tryz.prog cf k 77)).map fun y => (y, H) := callR_3 rfl (noExt_of Tryz.func77 rfl)
theorem fz78 : (cf.keep 78 1000000).getD [] = [5, 19] := rfl
theorem dy78 {id : Nat} : dy 78 id = false := rfl
theorem cl78 : callR Tryz.prog (acall cf.mode strict (arun Tryz.prog cf k)) H (.fn 78 caps) args = arun Tryz.prog cf k 78 (args ++ caps) H := callR_0 rfl (noExt_of Tryz.func78 rfl)
theorem pm79 : arun Tryz.prog cf (k + 1) 79 args H = (sortFPrim 80) args H := rfl
theorem cl79 : callR Tryz.prog (acall cf.mode strict (arun Tryz.prog cf k)) H (.fn 79 caps) args = arun Tryz.prog cf k 79 (args ++ caps) H := callR_0 rfl (noExt_of Tryz.func79 rfl)
theorem fz0_80 : (cf0.keep 80 1000000).getD [] = [] := rfl
theorem dy80 {id : Nat} : dy 80 id = false := rfl
theorem cl80 : callR Tryz.prog (acall cf.mode strict (arun Tryz.prog cf k)) H (.fn 80 caps) args = ((amap (rb H depth) (args ++ caps)).bind (val Tryz.prog cf k 80)).map fun y => (y, H) := callR_3 rfl (noExt_of Tryz.func80 rfl)
theorem fz0_81 : (cf0.keep 81 1000000).getD [] = [] := rfl
theorem dy81 {id : Nat} : dy 81 id = false := rfl
theorem cl0_81 : callR Tryz.prog (acall cf0.mode strict (arun Tryz.prog cf0 k)) H (.fn 81 caps) args = ((amap (rb H depth) (args ++ caps)).bind (val Tryz.prog cf0 k 81)).map (fun y => (y, H)) := callR_3 rfl (noExt_of Tryz.func81 rfl)
theorem fz82 : (cf.keep 82 1000000).getD [] = [] := rfl
theorem dy82 {id : Nat} : dy 82 id = false := rfl
theorem cl82 : callR Tryz.prog (acall cf.mode strict (arun Tryz.prog cf k)) H (.fn 82 caps) args = arun Tryz.prog cf k 82 (args ++ caps) H := callR_0 rfl (noExt_of Tryz.func82 rfl)
theorem fz83 : (cf.keep 83 1000000).getD [] = [] := rfl
theorem dy83 {id : Nat} : dy 83 id = false := rfl
theorem cl83 : callR Tryz.prog (acall cf.mode strict (arun Tryz.prog cf k)) H (.fn 83 caps) args = ((amap (rb H depth) (args ++ caps)).bind (val Tryz.prog cf k 83)).map fun y => (y, H) := callR_3 rfl (noExt_of Tryz.func83 rfl)
theorem fz84 : (cf.keep 84 1000000).getD [] = [1] := rfl
theorem dy84 {id : Nat} : dy 84 id = false := rfl
theorem cl84 : callR Tryz.prog (acall cf.mode strict (arun Tryz.prog cf k)) H (.fn 84 caps) args = ((amap (rb H depth) (args ++ caps)).bind (val Tryz.prog cf k 84)).map fun y => (y, H) := callR_3 rfl (noExt_of Tryz.func84 rfl)
theorem fz85 : (cf.keep 85 1000000).getD [] = [23, 62] := rfl
theorem dy85 {id : Nat} : dy 85 id = false := rfl
theorem cl85 : callR Tryz.prog (acall cf.mode strict (arun Tryz.prog cf k)) H (.fn 85 caps) args = ((amap (rb H depth) (args ++ caps)).bind (val Tryz.prog cf k 85)).map fun y => (y, H) := callR_3 rfl (noExt_of Tryz.func85 rfl)
theorem fz86 : (cf.keep 86 1000000).getD [] = [9, 45] := rfl
theorem dy86 {id : Nat} : dy 86 id = false := rfl
theorem cl86 : callR Tryz.prog (acall cf.mode strict (arun Tryz.prog cf k)) H (.fn 86 caps) args = if (args ++ caps).all (pv depth) = true then ((amap (rb H depth) (args ++ caps)).bind (valD Tryz.prog cf k 86)).map (fun y => (y, H)) else none := callR_1 rfl (noExt_of Tryz.func86 rfl)
theorem fz87 : (cf.keep 87 1000000).getD [] = [] := rfl
theorem dy87 {id : Nat} : dy 87 id = false := rfl
theorem cl87 : callR Tryz.prog (acall cf.mode strict (arun Tryz.prog cf k)) H (.fn 87 caps) args = ((amap (rb H depth) (args ++ caps)).bind (val Tryz.prog cf k 87)).map fun y => (y, H) := callR_3 rfl (noExt_of Tryz.func87 rfl)
theorem fz88 : (cf.keep 88 1000000).getD [] = [] := rfl
theorem dy88 {id : Nat} : dy 88 id = false := rfl
theorem cl88 : callR Tryz.prog (acall cf.mode strict (arun Tryz.prog cf k)) H (.fn 88 caps) args = arun Tryz.prog cf k 88 (args ++ caps) H := callR_0 rfl (noExt_of Tryz.func88 rfl)
theorem fz89 : (cf.keep 89 1000000).getD [] = [] := rfl
theorem dy89 {id : Nat} : dy 89 id = false := rfl
theorem cl89 : callR Tryz.prog (acall cf.mode strict (arun Tryz.prog cf k)) H (.fn 89 caps) args = ((amap (rb H depth) (args ++ caps)).bind (val Tryz.prog cf k 89)).map fun y => (y, H) := callR_3 rfl (noExt_of Tryz.func89 rfl)
theorem fz90 : (cf.keep 90 1000000).getD [] = [] := rfl
theorem dy90 {id : Nat} : dy 90 id = false := rfl
theorem cl90 : callR Tryz.prog (acall cf.mode strict (arun Tryz.prog cf k)) H (.fn 90 caps) args = arun Tryz.prog cf k 90 (args ++ caps) H := callR_0 rfl (noExt_of Tryz.func90 rfl)
theorem fz91 : (cf.keep 91 1000000).getD [] = [] := rfl
theorem dy91 {id : Nat} : dy 91 id = false := rfl
theorem cl91 : callR Tryz.prog (acall cf.mode strict (arun Tryz.prog cf k)) H (.fn 91 caps) args = arun Tryz.prog cf k 91 (args ++ caps) H := callR_0 rfl (noExt_of Tryz.func91 rfl)
theorem fz92 : (cf.keep 92 1000000).getD [] = [3] := rfl
theorem dy92 {id : Nat} : dy 92 id = false := rfl
theorem cl92 : callR Tryz.prog (acall cf.mode strict (arun Tryz.prog cf k)) H (.fn 92 caps) args = ((amap (rb H depth) (args ++ caps)).bind (val Tryz.prog cf k 92)).map fun y => (y, H) := callR_3 rfl (noExt_of Tryz.func92 rfl)
theorem fz93 : (cf.keep 93 1000000).getD [] = [7, 22] := rfl
theorem dy93 {id : Nat} : dy 93 id = false := rfl
theorem cl93 : callR Tryz.prog (acall cf.mode strict (arun Tryz.prog cf k)) H (.fn 93 caps) args = arun Tryz.prog cf k 93 (args ++ caps) H := callR_0 rfl (noExt_of Tryz.func93 rfl)
theorem fz94 : (cf.keep 94 1000000).getD [] = [1, 12, 13] := rfl
theorem dy94 {id : Nat} : dy 94 id = false := rfl
theorem cl94 : callR Tryz.prog (acall cf.mode strict (arun Tryz.prog cf k)) H (.fn 94 caps) args = if (args ++ caps).all (pv depth) = true then ((amap (rb H depth) (args ++ caps)).bind (valD Tryz.prog cf k 94)).map (fun y => (y, H)) else none := callR_1 rfl (noExt_of Tryz.func94 rfl)
theorem fz95 : (cf.keep 95 1000000).getD [] = [] := rfl
theorem dy95 {id : Nat} : dy 95 id = false := rfl
theorem cl95 : callR Tryz.prog (acall cf.mode strict (arun Tryz.prog cf k)) H (.fn 95 caps) args = ((amap (rb H depth) (args ++ caps)).bind (val Tryz.prog cf k 95)).map fun y => (y, H) := callR_3 rfl (noExt_of Tryz.func95 rfl)
theorem fz96 : (cf.keep 96 1000000).getD [] = [2] := rfl
theorem dy96 {id : Nat} : dy 96 id = false := rfl
theorem cl96 : callR Tryz.prog (acall cf.mode strict (arun Tryz.prog cf k)) H (.fn 96 caps) args = ((amap (rb H depth) (args ++ caps)).bind (val Tryz.prog cf k 96)).map fun y => (y, H) := callR_3 rfl (noExt_of Tryz.func96 rfl)
theorem fz97 : (cf.keep 97 1000000).getD [] = [1, 5, 15, 32] := rfl
theorem dy97 {id : Nat} : dy 97 id = false := rfl
theorem cl97 : callR Tryz.prog (acall cf.mode strict (arun Tryz.prog cf k)) H (.fn 97 caps) args = ((amap (rb H depth) (args ++ caps)).bind (val Tryz.prog cf k 97)).map fun y => (y, H) := callR_3 rfl (noExt_of Tryz.func97 rfl)
theorem pm98 : arun Tryz.prog cf (k + 1) 98 args H = sortPrim args H := rfl
theorem cl98 : callR Tryz.prog (acall cf.mode strict (arun Tryz.prog cf k)) H (.fn 98 caps) args = arun Tryz.prog cf k 98 (args ++ caps) H := callR_0 rfl (noExt_of Tryz.func98 rfl)
theorem pm99 : arun Tryz.prog cf (k + 1) 99 args H = compactPrim args H := rfl
theorem cl99 : callR Tryz.prog (acall cf.mode strict (arun Tryz.prog cf k)) H (.fn 99 caps) args = arun Tryz.prog cf k 99 (args ++ caps) H := callR_0 rfl (noExt_of Tryz.func99 rfl)
theorem fz109 : (cf.keep 109 1000000).getD [] = [] := rfl
theorem dy109 {id : Nat} : dy 109 id = false := rfl
theorem cl109 : callR Tryz.prog (acall cf.mode strict (arun Tryz.prog cf k)) H (.fn 109 caps) args = ((amap (rb H depth) (args ++ caps)).bind (val Tryz.prog cf k 109)).map fun y => (y, H) := callR_3 rfl (noExt_of Tryz.func109 rfl)
theorem fz110 : (cf.keep 110 1000000).getD [] = [] := rfl
theorem dy110 {id : Nat} : dy 110 id = false := rfl
theorem cl110 : callR Tryz.prog (acall cf.mode strict (arun Tryz.prog cf k)) H (.fn 110 caps) args = ((amap (rb H depth) (args ++ caps)).bind (val Tryz.prog cf k 110)).map fun y => (y, H) := callR_3 rfl (noExt_of Tryz.func110 rfl)
theorem fz0_113 : (cf0.keep 113 1000000).getD [] = [] := rfl
theorem dy113 {id : Nat} : dy 113 id = false := rfl
theorem cl0_113 : callR Tryz.prog (acall cf0.mode strict (arun Tryz.prog cf0 k)) H (.fn 113 caps) args = ((amap (rb H depth) (args ++ caps)).bind (val Tryz.prog cf0 k 113)).map (fun y => (y, H)) := callR_3 rfl (noExt_of Tryz.func113 rfl)
theorem fz114 : (cf.keep 114 1000000).getD [] = [] := rfl
theorem dy114 {id : Nat} : dy 114 id = false := rfl
theorem cl114 : callR Tryz.prog (acall cf.mode strict (arun Tryz.prog cf k)) H (.fn 114 caps) args = ((amap (rb H depth) (args ++ caps)).bind (val Tryz.prog cf k 114)).map fun y => (y, H) := callR_3 rfl (noExt_of Tryz.func114 rfl)
theorem fz115 : (cf.keep 115 1000000).getD [] = [] := rfl
theorem dy115 {id : Nat} : dy 115 id = false := rfl
theorem cl115 : callR Tryz.prog (acall cf.mode strict (arun Tryz.prog cf k)) H (.fn 115 caps) args = arun Tryz.prog cf k 115 (args ++ caps) H := callR_0 rfl (noExt_of Tryz.func115 rfl)
theorem fz116 : (cf.keep 116 1000000).getD [] = [5] := rfl
theorem fz0_116 : (cf0.keep 116 1000000).getD [] = [5] := rfl
theorem dy116 {id : Nat} : dy 116 id = false := rfl
theorem cl116 : callR Tryz.prog (acall cf.mode strict (arun Tryz.prog cf k)) H (.fn 116 caps) args = arun Tryz.prog cf k 116 (args ++ caps) H := callR_0 rfl (noExt_of Tryz.func116 rfl)
theorem fz117 : (cf.keep 117 1000000).getD [] = [] := rfl
theorem dy117 {id : Nat} : dy 117 id = false := rfl
theorem cl117 : callR Tryz.prog (acall cf.mode strict (arun Tryz.prog cf k)) H (.fn 117 caps) args = ((amap (rb H depth) (args ++ caps)).bind (val Tryz.prog cf k 117)).map fun y => (y, H) := callR_3 rfl (noExt_of Tryz.func117 rfl)
theorem fz126 : (cf.keep 126 1000000).getD [] = [] := rfl
theorem dy126 {id : Nat} : dy 126 id = false := rfl
theorem cl126 : callR Tryz.prog (acall cf.mode strict (arun Tryz.prog cf k)) H (.fn 126 caps) args = ((amap (rb H depth) (args ++ caps)).bind (val Tryz.prog cf k 126)).map fun y => (y, H) := callR_3 rfl (noExt_of Tryz.func126 rfl)
theorem fz0_137 : (cf0.keep 137 1000000).getD [] = [] := rfl
theorem dy137 {id : Nat} : dy 137 id = false := rfl
theorem cl0_137 : callR Tryz.prog (acall cf0.mode strict (arun Tryz.prog cf0 k)) H (.fn 137 caps) args = ((amap (rb H depth) (args ++ caps)).bind (val Tryz.prog cf0 k 137)).map (fun y => (y, H)) := callR_3 rfl (noExt_of Tryz.func137 rfl)
theorem fz139 : (cf.keep 139 1000000).getD [] = [] := rfl
theorem dy139 {id : Nat} : dy 139 id = false := rfl
theorem cl139 : callR Tryz.prog (acall cf.mode strict (arun Tryz.prog cf k)) H (.fn 139 caps) args = arun Tryz.prog cf k 139 (args ++ caps) H := callR_0 rfl (noExt_of Tryz.func139 rfl)
theorem sz2 : szOf Tryz.prog 2 = some 1 := by kernel_rfl
theorem ag2 : aggB Tryz.prog 2 = some false := by kernel_rfl
theorem zk2 : zOk Tryz.prog 2 1 = true := by kernel_rfl
theorem sz3 : szOf Tryz.prog 3 = some 1 := by kernel_rfl
theorem ag3 : aggB Tryz.prog 3 = some false := by kernel_rfl
theorem zk3 : zOk Tryz.prog 3 1 = true := by kernel_rfl
theorem sz4 : szOf Tryz.prog 4 = some 1 := by kernel_rfl
theorem ag4 : aggB Tryz.prog 4 = some false := by kernel_rfl
theorem zk4 : zOk Tryz.prog 4 1 = true := by kernel_rfl
theorem sz5 : szOf Tryz.prog 5 = some 1 := by kernel_rfl
theorem ag5 : aggB Tryz.prog 5 = some false := by kernel_rfl
theorem zk5 : zOk Tryz.prog 5 1 = true := by kernel_rfl
theorem sz9 : szOf Tryz.prog 9 = some 1 := by kernel_rfl
theorem ag9 : aggB Tryz.prog 9 = some false := by kernel_rfl
theorem zk9 : zOk Tryz.prog 9 1 = true := by kernel_rfl
theorem sz24 : szOf Tryz.prog 24 = some 1 := by kernel_rfl
theorem ag24 : aggB Tryz.prog 24 = some false := by kernel_rfl
theorem zk24 : zOk Tryz.prog 24 1 = true := by kernel_rfl
theorem sz26 : szOf Tryz.prog 26 = some 2 := by kernel_rfl
theorem ag26 : aggB Tryz.prog 26 = some true := by kernel_rfl
theorem zk26 : zOk Tryz.prog 26 2 = true := by kernel_rfl
theorem sz28 : szOf Tryz.prog 28 = some 2 := by kernel_rfl
theorem ag28 : aggB Tryz.prog 28 = some true := by kernel_rfl
theorem zk28 : zOk Tryz.prog 28 2 = true := by kernel_rfl
theorem sz33 : szOf Tryz.prog 33 = some 3 := by kernel_rfl
theorem ag33 : aggB Tryz.prog 33 = some true := by kernel_rfl
theorem zk33 : zOk Tryz.prog 33 3 = true := by kernel_rfl
theorem sz35 : szOf Tryz.prog 35 = some 4 := by kernel_rfl
theorem ag35 : aggB Tryz.prog 35 = some true := by kernel_rfl
theorem zk35 : zOk Tryz.prog 35 4 = true := by kernel_rfl
theorem sz36 : szOf Tryz.prog 36 = some 1 := by kernel_rfl
theorem ag36 : aggB Tryz.prog 36 = some false := by kernel_rfl
theorem zk36 : zOk Tryz.prog 36 1 = true := by kernel_rfl
theorem sz38 : szOf Tryz.prog 38 = some 1 := by kernel_rfl
theorem ag38 : aggB Tryz.prog 38 = some false := by kernel_rfl
theorem zk38 : zOk Tryz.prog 38 1 = true := by kernel_rfl
theorem sz40 : szOf Tryz.prog 40 = some 3 := by kernel_rfl
theorem ag40 : aggB Tryz.prog 40 = some true := by kernel_rfl
theorem zk40 : zOk Tryz.prog 40 3 = true := by kernel_rfl
theorem sz46 : szOf Tryz.prog 46 = some 1 := by kernel_rfl
theorem ag46 : aggB Tryz.prog 46 = some false := by kernel_rfl
theorem zk46 : zOk Tryz.prog 46 1 = true := by kernel_rfl
theorem sz48 : szOf Tryz.prog 48 = some 1 := by kernel_rfl
theorem ag48 : aggB Tryz.prog 48 = some false := by kernel_rfl
theorem zk48 : zOk Tryz.prog 48 1 = true := by kernel_rfl
theorem sz50 : szOf Tryz.prog 50 = some 4 := by kernel_rfl
theorem ag50 : aggB Tryz.prog 50 = some true := by kernel_rfl
theorem zk50 : zOk Tryz.prog 50 4 = true := by kernel_rfl
theorem sz52 : szOf Tryz.prog 52 = some 1 := by kernel_rfl
theorem ag52 : aggB Tryz.prog 52 = some false := by kernel_rfl
theorem zk52 : zOk Tryz.prog 52 1 = true := by kernel_rfl
theorem sz54 : szOf Tryz.prog 54 = some 17 := by kernel_rfl
theorem ag54 : aggB Tryz.prog 54 = some true := by kernel_rfl
theorem zk54 : zOk Tryz.prog 54 17 = true := by kernel_rfl
theorem sz62 : szOf Tryz.prog 62 = some 1 := by kernel_rfl
theorem ag62 : aggB Tryz.prog 62 = some false := by kernel_rfl
theorem zk62 : zOk Tryz.prog 62 1 = true := by kernel_rfl
theorem sz65 : szOf Tryz.prog 65 = some 3 := by kernel_rfl
theorem ag65 : aggB Tryz.prog 65 = some true := by kernel_rfl
theorem zk65 : zOk Tryz.prog 65 3 = true := by kernel_rfl
theorem sz70 : szOf Tryz.prog 70 = some 1 := by kernel_rfl
theorem ag70 : aggB Tryz.prog 70 = some false := by kernel_rfl
theorem zk70 : zOk Tryz.prog 70 1 = true := by kernel_rfl
theorem sz82 : szOf Tryz.prog 82 = some 1 := by kernel_rfl
theorem ag82 : aggB Tryz.prog 82 = some false := by kernel_rfl
theorem zk82 : zOk Tryz.prog 82 1 = true := by kernel_rfl
theorem sz84 : szOf Tryz.prog 84 = some 1 := by kernel_rfl
theorem ag84 : aggB Tryz.prog 84 = some false := by kernel_rfl
theorem zk84 : zOk Tryz.prog 84 1 = true := by kernel_rfl
theorem sz85 : szOf Tryz.prog 85 = some 1 := by kernel_rfl
theorem ag85 : aggB Tryz.prog 85 = some false := by kernel_rfl
theorem zk85 : zOk Tryz.prog 85 1 = true := by kernel_rfl
theorem sz88 : szOf Tryz.prog 88 = some 1 := by kernel_rfl
theorem ag88 : aggB Tryz.prog 88 = some false := by kernel_rfl
theorem zk88 : zOk Tryz.prog 88 1 = true := by kernel_rfl
theorem sz93 : szOf Tryz.prog 93 = some 1 := by kernel_rfl
theorem ag93 : aggB Tryz.prog 93 = some false := by kernel_rfl
theorem zk93 : zOk Tryz.prog 93 1 = true := by kernel_rfl
theorem sz101 : szOf Tryz.prog 101 = some 1 := by kernel_rfl
theorem ag101 : aggB Tryz.prog 101 = some false := by kernel_rfl
theorem zk101 : zOk Tryz.prog 101 1 = true := by kernel_rfl
theorem sz105 : szOf Tryz.prog 105 = some 2 := by kernel_rfl
theorem ag105 : aggB Tryz.prog 105 = some true := by kernel_rfl
theorem zk105 : zOk Tryz.prog 105 2 = true := by kernel_rfl
theorem sz115 : szOf Tryz.prog 115 = some 2 := by kernel_rfl
theorem ag115 : aggB Tryz.prog 115 = some true := by kernel_rfl
theorem zk115 : zOk Tryz.prog 115 2 = true := by kernel_rfl
theorem sz118 : szOf Tryz.prog 118 = some 1 := by kernel_rfl
theorem ag118 : aggB Tryz.prog 118 = some false := by kernel_rfl
theorem zk118 : zOk Tryz.prog 118 1 = true := by kernel_rfl
theorem sz121 : szOf Tryz.prog 121 = some 1 := by kernel_rfl
theorem ag121 : aggB Tryz.prog 121 = some false := by kernel_rfl
theorem zk121 : zOk Tryz.prog 121 1 = true := by kernel_rfl
theorem sz122 : szOf Tryz.prog 122 = some 1 := by kernel_rfl
theorem ag122 : aggB Tryz.prog 122 = some false := by kernel_rfl
theorem zk122 : zOk Tryz.prog 122 1 = true := by kernel_rfl
theorem sz124 : szOf Tryz.prog 124 = some 1 := by kernel_rfl
theorem ag124 : aggB Tryz.prog 124 = some false := by kernel_rfl
theorem zk124 : zOk Tryz.prog 124 1 = true := by kernel_rfl
theorem sz129 : szOf Tryz.prog 129 = some 1 := by kernel_rfl
theorem ag129 : aggB Tryz.prog 129 = some false := by kernel_rfl
theorem zk129 : zOk Tryz.prog 129 1 = true := by kernel_rfl
theorem sz130 : szOf Tryz.prog 130 = some 1 := by kernel_rfl
theorem ag130 : aggB Tryz.prog 130 = some false := by kernel_rfl
theorem zk130 : zOk Tryz.prog 130 1 = true := by kernel_rfl
theorem sz132 : szOf Tryz.prog 132 = some 2 := by kernel_rfl
theorem ag132 : aggB Tryz.prog 132 = some true := by kernel_rfl
theorem zk132 : zOk Tryz.prog 132 2 = true := by kernel_rfl
theorem sz148 : szOf Tryz.prog 148 = some 1 := by kernel_rfl
theorem ag148 : aggB Tryz.prog 148 = some false := by kernel_rfl
theorem zk148 : zOk Tryz.prog 148 1 = true := by kernel_rfl
theorem sz153 : szOf Tryz.prog 153 = some 1 := by kernel_rfl
theorem ag153 : aggB Tryz.prog 153 = some false := by kernel_rfl
theorem zk153 : zOk Tryz.prog 153 1 = true := by kernel_rfl
theorem sz173 : szOf Tryz.prog 173 = some 1 := by kernel_rfl
theorem ag173 : aggB Tryz.prog 173 = some false := by kernel_rfl
theorem zk173 : zOk Tryz.prog 173 1 = true := by kernel_rfl
theorem sz175 : szOf Tryz.prog 175 = some 1 := by kernel_rfl
theorem ag175 : aggB Tryz.prog 175 = some false := by kernel_rfl
theorem zk175 : zOk Tryz.prog 175 1 = true := by kernel_rfl
theorem al3 : aAlloc Tryz.prog H 3 = some (.new (.ptr H.length 0 0) ⟨3, 1, 0, false, [.sc (.int .i64 0)], .cells⟩) := by kernel_rfl
theorem al9 : aAlloc Tryz.prog H 9 = some (.new (.ptr H.length 0 0) ⟨9, 1, 0, false, [.sc (.string .empty)], .cells⟩) := by kernel_rfl
theorem bd26 {ρ : Operand → AV} {d : Option Tmp} {ty : TypeId} {pos : String} {af : Array Edge} {g : Option (Nat × Bool)} {parts : Array (Nat × Operand)} : aop Tryz.prog H ρ ⟨d, .build 26 parts, ty, pos, af, g⟩ = (afill (fun i => ([(0, 1), (1, 1)] : List (Nat × Nat))[i]?) [.sc (.string .empty), .sc (.slice none 0 0)] (parts.toList.map fun (x : Nat × Operand) => (x.1, ρ x.2))).map fun cs => .val (.agg cs) := by kernel_rfl
theorem al28 : aAlloc Tryz.prog H 28 = some (.new (.ptr H.length 0 0) ⟨28, 2, 0, false, [.sc (.string .empty), .sc (.string .empty)], .cells⟩) := by kernel_rfl
theorem bd28 {ρ : Operand → AV} {d : Option Tmp} {ty : TypeId} {pos : String} {af : Array Edge} {g : Option (Nat × Bool)} {parts : Array (Nat × Operand)} : aop Tryz.prog H ρ ⟨d, .build 28 parts, ty, pos, af, g⟩ = (afill (fun i => ([(0, 1), (1, 1)] : List (Nat × Nat))[i]?) [.sc (.string .empty), .sc (.string .empty)] (parts.toList.map fun (x : Nat × Operand) => (x.1, ρ x.2))).map fun cs => .val (.agg cs) := by kernel_rfl
theorem al33 : aAlloc Tryz.prog H 33 = some (.new (.ptr H.length 0 0) ⟨33, 3, 0, false, [.sc (.int .i64 0), .sc (.int .i64 0), .sc (.string .empty)], .cells⟩) := by kernel_rfl
theorem bd33 {ρ : Operand → AV} {d : Option Tmp} {ty : TypeId} {pos : String} {af : Array Edge} {g : Option (Nat × Bool)} {parts : Array (Nat × Operand)} : aop Tryz.prog H ρ ⟨d, .build 33 parts, ty, pos, af, g⟩ = (afill (fun i => ([(0, 1), (1, 1), (2, 1)] : List (Nat × Nat))[i]?) [.sc (.int .i64 0), .sc (.int .i64 0), .sc (.string .empty)] (parts.toList.map fun (x : Nat × Operand) => (x.1, ρ x.2))).map fun cs => .val (.agg cs) := by kernel_rfl
theorem al35 : aAlloc Tryz.prog H 35 = some (.new (.ptr H.length 0 0) ⟨35, 4, 0, false, [.sc (.string .empty), .sc (.int .i64 0), .sc (.int .i64 0), .sc (.string .empty)], .cells⟩) := by kernel_rfl
theorem bd35 {ρ : Operand → AV} {d : Option Tmp} {ty : TypeId} {pos : String} {af : Array Edge} {g : Option (Nat × Bool)} {parts : Array (Nat × Operand)} : aop Tryz.prog H ρ ⟨d, .build 35 parts, ty, pos, af, g⟩ = (afill (fun i => ([(0, 1), (1, 3)] : List (Nat × Nat))[i]?) [.sc (.string .empty), .sc (.int .i64 0), .sc (.int .i64 0), .sc (.string .empty)] (parts.toList.map fun (x : Nat × Operand) => (x.1, ρ x.2))).map fun cs => .val (.agg cs) := by kernel_rfl
theorem al36 : aAlloc Tryz.prog H 36 = some (.new (.ptr H.length 0 0) ⟨36, 1, 0, false, [.sc (.slice none 0 0)], .cells⟩) := by kernel_rfl
theorem al40 : aAlloc Tryz.prog H 40 = some (.new (.ptr H.length 0 0) ⟨40, 3, 0, false, [.sc (.slice none 0 0), .sc (.string .empty), .sc (.slice none 0 0)], .cells⟩) := by kernel_rfl
theorem bd40 {ρ : Operand → AV} {d : Option Tmp} {ty : TypeId} {pos : String} {af : Array Edge} {g : Option (Nat × Bool)} {parts : Array (Nat × Operand)} : aop Tryz.prog H ρ ⟨d, .build 40 parts, ty, pos, af, g⟩ = (afill (fun i => ([(0, 1), (1, 2)] : List (Nat × Nat))[i]?) [.sc (.slice none 0 0), .sc (.string .empty), .sc (.slice none 0 0)] (parts.toList.map fun (x : Nat × Operand) => (x.1, ρ x.2))).map fun cs => .val (.agg cs) := by kernel_rfl
theorem al50 : aAlloc Tryz.prog H 50 = some (.new (.ptr H.length 0 0) ⟨50, 4, 0, false, [.sc (.string .empty), .sc (.slice none 0 0), .sc (.int .i64 0), .sc (.slice none 0 0)], .cells⟩) := by kernel_rfl
theorem bd50 {ρ : Operand → AV} {d : Option Tmp} {ty : TypeId} {pos : String} {af : Array Edge} {g : Option (Nat × Bool)} {parts : Array (Nat × Operand)} : aop Tryz.prog H ρ ⟨d, .build 50 parts, ty, pos, af, g⟩ = (afill (fun i => ([(0, 2), (2, 1), (3, 1)] : List (Nat × Nat))[i]?) [.sc (.string .empty), .sc (.slice none 0 0), .sc (.int .i64 0), .sc (.slice none 0 0)] (parts.toList.map fun (x : Nat × Operand) => (x.1, ρ x.2))).map fun cs => .val (.agg cs) := by kernel_rfl
theorem al54 : aAlloc Tryz.prog H 54 = some (.new (.ptr H.length 0 0) ⟨54, 17, 0, false, [.sc (.int .i64 0), .sc (.string .empty), .sc (.slice none 0 0), .sc (.string .empty), .sc (.string .empty), .sc (.int .i64 0), .sc (.int .i64 0), .sc (.string .empty), .sc (.string .empty), .sc (.int .i64 0), .sc (.int .i64 0), .sc (.string .empty), .sc (.string .empty), .sc (.int .i64 0), .sc (.int .i64 0), .sc (.string .empty), .sc (.slice none 0 0)], .cells⟩) := by kernel_rfl
theorem bd54 {ρ : Operand → AV} {d : Option Tmp} {ty : TypeId} {pos : String} {af : Array Edge} {g : Option (Nat × Bool)} {parts : Array (Nat × Operand)} : aop Tryz.prog H ρ ⟨d, .build 54 parts, ty, pos, af, g⟩ = (afill (fun i => ([(0, 1), (1, 2), (3, 1), (4, 4), (8, 4), (12, 4), (16, 1)] : List (Nat × Nat))[i]?) [.sc (.int .i64 0), .sc (.string .empty), .sc (.slice none 0 0), .sc (.string .empty), .sc (.string .empty), .sc (.int .i64 0), .sc (.int .i64 0), .sc (.string .empty), .sc (.string .empty), .sc (.int .i64 0), .sc (.int .i64 0), .sc (.string .empty), .sc (.string .empty), .sc (.int .i64 0), .sc (.int .i64 0), .sc (.string .empty), .sc (.slice none 0 0)] (parts.toList.map fun (x : Nat × Operand) => (x.1, ρ x.2))).map fun cs => .val (.agg cs) := by kernel_rfl
theorem al65 : aAlloc Tryz.prog H 65 = some (.new (.ptr H.length 0 0) ⟨65, 3, 0, false, [.sc (.string .empty), .sc (.slice none 0 0), .sc (.slice none 0 0)], .cells⟩) := by kernel_rfl
theorem bd65 {ρ : Operand → AV} {d : Option Tmp} {ty : TypeId} {pos : String} {af : Array Edge} {g : Option (Nat × Bool)} {parts : Array (Nat × Operand)} : aop Tryz.prog H ρ ⟨d, .build 65 parts, ty, pos, af, g⟩ = (afill (fun i => ([(0, 1), (1, 1), (2, 1)] : List (Nat × Nat))[i]?) [.sc (.string .empty), .sc (.slice none 0 0), .sc (.slice none 0 0)] (parts.toList.map fun (x : Nat × Operand) => (x.1, ρ x.2))).map fun cs => .val (.agg cs) := by kernel_rfl
theorem al82 : aAlloc Tryz.prog H 82 = some (.new (.ptr H.length 0 0) ⟨82, 1, 0, false, [.sc (.slice none 0 0)], .cells⟩) := by kernel_rfl
theorem al84 : aAlloc Tryz.prog H 84 = some (.new (.ptr H.length 0 0) ⟨84, 1, 0, false, [.sc (.map none)], .cells⟩) := by kernel_rfl
theorem al105 : aAlloc Tryz.prog H 105 = some (.new (.ptr H.length 0 0) ⟨105, 2, 0, false, [.sc (.int .i64 0), .sc (.string .empty)], .cells⟩) := by kernel_rfl
theorem al115 : aAlloc Tryz.prog H 115 = some (.new (.ptr H.length 0 0) ⟨115, 2, 0, false, [.sc (.int .i64 0), .sc (.int .i64 0)], .cells⟩) := by kernel_rfl
theorem bd115 {ρ : Operand → AV} {d : Option Tmp} {ty : TypeId} {pos : String} {af : Array Edge} {g : Option (Nat × Bool)} {parts : Array (Nat × Operand)} : aop Tryz.prog H ρ ⟨d, .build 115 parts, ty, pos, af, g⟩ = (afill (fun j => some (j * 1, 1)) [.sc (.int .i64 0), .sc (.int .i64 0)] (parts.toList.map fun (x : Nat × Operand) => (x.1, ρ x.2))).map fun cs => .val (.agg cs) := by kernel_rfl
theorem al132 : aAlloc Tryz.prog H 132 = some (.new (.ptr H.length 0 0) ⟨132, 2, 0, false, [.sc (.pointer none), .sc (.slice none 0 0)], .cells⟩) := by kernel_rfl
theorem len24 {sz : Nat} {rows : List (List AV)} : aLen Tryz.prog H 24 (mkL sz rows) = some (.val (.sc (.int .i64 rows.length))) := aLen_mkL Tryz.underlying24
theorem ix24 {rows : List (List AV)} {q : IntKind} {i : Nat} : aIndexAddr Tryz.prog H 24 (mkL 4 rows) (.sc (.int q (i : Nat))) = (rows[i]?).map fun r => .val (.ro r) := ix_mkL Tryz.underlying24 sz35 (by decide)
theorem ro24 : rowOk Tryz.prog 24 35 4 48 = true := by kernel_rfl
theorem bs24 {x : AV} : aBS1 Tryz.prog H 24 x = if (solid x && decide ((acells x).length = 4) && (acells x).all one) = true then some (.new (.own H.length 0 1 4 0) ⟨35, 4, 0, true, acells x, .cells⟩) else bsElse Tryz.prog H 24 x := bs1_if ro24
theorem bz24 {ρ : Operand → AV} {d : Option Tmp} {ty : TypeId} {pos : String} {af : Array Edge} {g : Option (Nat × Bool)} : aop Tryz.prog H ρ ⟨d, .buildSlice 24 0 #[], ty, pos, af, g⟩ = some (.new .z ⟨35, 4, 0, true, [], .cells⟩) := by kernel_rfl
theorem lo24 {b i n sz ver : Nat} : aLen Tryz.prog H 24 (.own b i n sz ver) = some (.val (.sc (.int .i64 n))) := aLen_slice Tryz.underlying24 rfl
theorem ixo24 {b n i ver j : Nat} {q : IntKind} : aIndexAddr Tryz.prog H 24 (.own b j n 4 ver) (.sc (.int q (i : Nat))) = (match blkAt H b ver with | some _ => if i < n then some (.val (.ptr b ((j + i) * 4) ver)) else none | none => none) := ixo_eq Tryz.underlying24 sz35
theorem len36 {sz : Nat} {rows : List (List AV)} : aLen Tryz.prog H 36 (mkL sz rows) = some (.val (.sc (.int .i64 rows.length))) := aLen_mkL Tryz.underlying36
theorem ix36 {rows : List (List AV)} {q : IntKind} {i : Nat} : aIndexAddr Tryz.prog H 36 (mkL 1 rows) (.sc (.int q (i : Nat))) = (rows[i]?).map fun r => .val (.ro r) := ix_mkL Tryz.underlying36 sz9 (by decide)
theorem ro36 : rowOk Tryz.prog 36 9 1 16 = true := by kernel_rfl
theorem bs36 {x : AV} : aBS1 Tryz.prog H 36 x = if (solid x && decide ((acells x).length = 1) && (acells x).all one) = true then some (.new (.own H.length 0 1 1 0) ⟨9, 1, 0, true, acells x, .cells⟩) else bsElse Tryz.prog H 36 x := bs1_if ro36
theorem bz36 {ρ : Operand → AV} {d : Option Tmp} {ty : TypeId} {pos : String} {af : Array Edge} {g : Option (Nat × Bool)} : aop Tryz.prog H ρ ⟨d, .buildSlice 36 0 #[], ty, pos, af, g⟩ = some (.new .z ⟨9, 1, 0, true, [], .cells⟩) := by kernel_rfl
theorem lo36 {b i n sz ver : Nat} : aLen Tryz.prog H 36 (.own b i n sz ver) = some (.val (.sc (.int .i64 n))) := aLen_slice Tryz.underlying36 rfl
theorem ixo36 {b n i ver j : Nat} {q : IntKind} : aIndexAddr Tryz.prog H 36 (.own b j n 1 ver) (.sc (.int q (i : Nat))) = (match blkAt H b ver with | some _ => if i < n then some (.val (.ptr b ((j + i) * 1) ver)) else none | none => none) := ixo_eq Tryz.underlying36 sz9
theorem len38 {sz : Nat} {rows : List (List AV)} : aLen Tryz.prog H 38 (mkL sz rows) = some (.val (.sc (.int .i64 rows.length))) := aLen_mkL Tryz.underlying38
theorem ix38 {rows : List (List AV)} {q : IntKind} {i : Nat} : aIndexAddr Tryz.prog H 38 (mkL 4 rows) (.sc (.int q (i : Nat))) = (rows[i]?).map fun r => .val (.ro r) := ix_mkL Tryz.underlying38 sz50 (by decide)
theorem ro38 : rowOk Tryz.prog 38 50 4 72 = true := by kernel_rfl
theorem bs38 {x : AV} : aBS1 Tryz.prog H 38 x = if (solid x && decide ((acells x).length = 4) && (acells x).all one) = true then some (.new (.own H.length 0 1 4 0) ⟨50, 4, 0, true, acells x, .cells⟩) else bsElse Tryz.prog H 38 x := bs1_if ro38
theorem bz38 {ρ : Operand → AV} {d : Option Tmp} {ty : TypeId} {pos : String} {af : Array Edge} {g : Option (Nat × Bool)} : aop Tryz.prog H ρ ⟨d, .buildSlice 38 0 #[], ty, pos, af, g⟩ = some (.new .z ⟨50, 4, 0, true, [], .cells⟩) := by kernel_rfl
theorem lo38 {b i n sz ver : Nat} : aLen Tryz.prog H 38 (.own b i n sz ver) = some (.val (.sc (.int .i64 n))) := aLen_slice Tryz.underlying38 rfl
theorem ixo38 {b n i ver j : Nat} {q : IntKind} : aIndexAddr Tryz.prog H 38 (.own b j n 4 ver) (.sc (.int q (i : Nat))) = (match blkAt H b ver with | some _ => if i < n then some (.val (.ptr b ((j + i) * 4) ver)) else none | none => none) := ixo_eq Tryz.underlying38 sz50
theorem len48 {sz : Nat} {rows : List (List AV)} : aLen Tryz.prog H 48 (mkL sz rows) = some (.val (.sc (.int .i64 rows.length))) := aLen_mkL Tryz.underlying48
theorem ix48 {rows : List (List AV)} {q : IntKind} {i : Nat} : aIndexAddr Tryz.prog H 48 (mkL 17 rows) (.sc (.int q (i : Nat))) = (rows[i]?).map fun r => .val (.ro r) := ix_mkL Tryz.underlying48 sz54 (by decide)
theorem ro48 : rowOk Tryz.prog 48 54 17 232 = true := by kernel_rfl
theorem bs48 {x : AV} : aBS1 Tryz.prog H 48 x = if (solid x && decide ((acells x).length = 17) && (acells x).all one) = true then some (.new (.own H.length 0 1 17 0) ⟨54, 17, 0, true, acells x, .cells⟩) else bsElse Tryz.prog H 48 x := bs1_if ro48
theorem bz48 {ρ : Operand → AV} {d : Option Tmp} {ty : TypeId} {pos : String} {af : Array Edge} {g : Option (Nat × Bool)} : aop Tryz.prog H ρ ⟨d, .buildSlice 48 0 #[], ty, pos, af, g⟩ = some (.new .z ⟨54, 17, 0, true, [], .cells⟩) := by kernel_rfl
theorem lo48 {b i n sz ver : Nat} : aLen Tryz.prog H 48 (.own b i n sz ver) = some (.val (.sc (.int .i64 n))) := aLen_slice Tryz.underlying48 rfl
theorem ixo48 {b n i ver j : Nat} {q : IntKind} : aIndexAddr Tryz.prog H 48 (.own b j n 17 ver) (.sc (.int q (i : Nat))) = (match blkAt H b ver with | some _ => if i < n then some (.val (.ptr b ((j + i) * 17) ver)) else none | none => none) := ixo_eq Tryz.underlying48 sz54
theorem len52 {sz : Nat} {rows : List (List AV)} : aLen Tryz.prog H 52 (mkL sz rows) = some (.val (.sc (.int .i64 rows.length))) := aLen_mkL Tryz.underlying52
theorem ix52 {rows : List (List AV)} {q : IntKind} {i : Nat} : aIndexAddr Tryz.prog H 52 (mkL 2 rows) (.sc (.int q (i : Nat))) = (rows[i]?).map fun r => .val (.ro r) := ix_mkL Tryz.underlying52 sz105 (by decide)
theorem ro52 : rowOk Tryz.prog 52 105 2 24 = true := by kernel_rfl
theorem bs52 {x : AV} : aBS1 Tryz.prog H 52 x = if (solid x && decide ((acells x).length = 2) && (acells x).all one) = true then some (.new (.own H.length 0 1 2 0) ⟨105, 2, 0, true, acells x, .cells⟩) else bsElse Tryz.prog H 52 x := bs1_if ro52
theorem bz52 {ρ : Operand → AV} {d : Option Tmp} {ty : TypeId} {pos : String} {af : Array Edge} {g : Option (Nat × Bool)} : aop Tryz.prog H ρ ⟨d, .buildSlice 52 0 #[], ty, pos, af, g⟩ = some (.new .z ⟨105, 2, 0, true, [], .cells⟩) := by kernel_rfl
theorem lo52 {b i n sz ver : Nat} : aLen Tryz.prog H 52 (.own b i n sz ver) = some (.val (.sc (.int .i64 n))) := aLen_slice Tryz.underlying52 rfl
theorem ixo52 {b n i ver j : Nat} {q : IntKind} : aIndexAddr Tryz.prog H 52 (.own b j n 2 ver) (.sc (.int q (i : Nat))) = (match blkAt H b ver with | some _ => if i < n then some (.val (.ptr b ((j + i) * 2) ver)) else none | none => none) := ixo_eq Tryz.underlying52 sz105
theorem len62 {sz : Nat} {rows : List (List AV)} : aLen Tryz.prog H 62 (mkL sz rows) = some (.val (.sc (.int .i64 rows.length))) := aLen_mkL Tryz.underlying62
theorem ix62 {rows : List (List AV)} {q : IntKind} {i : Nat} : aIndexAddr Tryz.prog H 62 (mkL 2 rows) (.sc (.int q (i : Nat))) = (rows[i]?).map fun r => .val (.ro r) := ix_mkL Tryz.underlying62 sz28 (by decide)
theorem ro62 : rowOk Tryz.prog 62 28 2 32 = true := by kernel_rfl
theorem bs62 {x : AV} : aBS1 Tryz.prog H 62 x = if (solid x && decide ((acells x).length = 2) && (acells x).all one) = true then some (.new (.own H.length 0 1 2 0) ⟨28, 2, 0, true, acells x, .cells⟩) else bsElse Tryz.prog H 62 x := bs1_if ro62
theorem bz62 {ρ : Operand → AV} {d : Option Tmp} {ty : TypeId} {pos : String} {af : Array Edge} {g : Option (Nat × Bool)} : aop Tryz.prog H ρ ⟨d, .buildSlice 62 0 #[], ty, pos, af, g⟩ = some (.new .z ⟨28, 2, 0, true, [], .cells⟩) := by kernel_rfl
theorem lo62 {b i n sz ver : Nat} : aLen Tryz.prog H 62 (.own b i n sz ver) = some (.val (.sc (.int .i64 n))) := aLen_slice Tryz.underlying62 rfl
theorem ixo62 {b n i ver j : Nat} {q : IntKind} : aIndexAddr Tryz.prog H 62 (.own b j n 2 ver) (.sc (.int q (i : Nat))) = (match blkAt H b ver with | some _ => if i < n then some (.val (.ptr b ((j + i) * 2) ver)) else none | none => none) := ixo_eq Tryz.underlying62 sz28
theorem len82 {sz : Nat} {rows : List (List AV)} : aLen Tryz.prog H 82 (mkL sz rows) = some (.val (.sc (.int .i64 rows.length))) := aLen_mkL Tryz.underlying82
theorem ix82 {rows : List (List AV)} {q : IntKind} {i : Nat} : aIndexAddr Tryz.prog H 82 (mkL 2 rows) (.sc (.int q (i : Nat))) = (rows[i]?).map fun r => .val (.ro r) := ix_mkL Tryz.underlying82 sz115 (by decide)
theorem ro82 : rowOk Tryz.prog 82 115 2 16 = true := by kernel_rfl
theorem bs82 {x : AV} : aBS1 Tryz.prog H 82 x = if (solid x && decide ((acells x).length = 2) && (acells x).all one) = true then some (.new (.own H.length 0 1 2 0) ⟨115, 2, 0, true, acells x, .cells⟩) else bsElse Tryz.prog H 82 x := bs1_if ro82
theorem bz82 {ρ : Operand → AV} {d : Option Tmp} {ty : TypeId} {pos : String} {af : Array Edge} {g : Option (Nat × Bool)} : aop Tryz.prog H ρ ⟨d, .buildSlice 82 0 #[], ty, pos, af, g⟩ = some (.new .z ⟨115, 2, 0, true, [], .cells⟩) := by kernel_rfl
theorem lo82 {b i n sz ver : Nat} : aLen Tryz.prog H 82 (.own b i n sz ver) = some (.val (.sc (.int .i64 n))) := aLen_slice Tryz.underlying82 rfl
theorem ixo82 {b n i ver j : Nat} {q : IntKind} : aIndexAddr Tryz.prog H 82 (.own b j n 2 ver) (.sc (.int q (i : Nat))) = (match blkAt H b ver with | some _ => if i < n then some (.val (.ptr b ((j + i) * 2) ver)) else none | none => none) := ixo_eq Tryz.underlying82 sz115
theorem len85 {sz : Nat} {rows : List (List AV)} : aLen Tryz.prog H 85 (mkL sz rows) = some (.val (.sc (.int .i64 rows.length))) := aLen_mkL Tryz.underlying85
theorem ix85 {rows : List (List AV)} {q : IntKind} {i : Nat} : aIndexAddr Tryz.prog H 85 (mkL 1 rows) (.sc (.int q (i : Nat))) = (rows[i]?).map fun r => .val (.ro r) := ix_mkL Tryz.underlying85 sz3 (by decide)
theorem ro85 : rowOk Tryz.prog 85 3 1 8 = true := by kernel_rfl
theorem bs85 {x : AV} : aBS1 Tryz.prog H 85 x = if (solid x && decide ((acells x).length = 1) && (acells x).all one) = true then some (.new (.own H.length 0 1 1 0) ⟨3, 1, 0, true, acells x, .cells⟩) else bsElse Tryz.prog H 85 x := bs1_if ro85
theorem bz85 {ρ : Operand → AV} {d : Option Tmp} {ty : TypeId} {pos : String} {af : Array Edge} {g : Option (Nat × Bool)} : aop Tryz.prog H ρ ⟨d, .buildSlice 85 0 #[], ty, pos, af, g⟩ = some (.new .z ⟨3, 1, 0, true, [], .cells⟩) := by kernel_rfl
theorem lo85 {b i n sz ver : Nat} : aLen Tryz.prog H 85 (.own b i n sz ver) = some (.val (.sc (.int .i64 n))) := aLen_slice Tryz.underlying85 rfl
theorem ixo85 {b n i ver j : Nat} {q : IntKind} : aIndexAddr Tryz.prog H 85 (.own b j n 1 ver) (.sc (.int q (i : Nat))) = (match blkAt H b ver with | some _ => if i < n then some (.val (.ptr b ((j + i) * 1) ver)) else none | none => none) := ixo_eq Tryz.underlying85 sz3
theorem len122 {sz : Nat} {rows : List (List AV)} : aLen Tryz.prog H 122 (mkL sz rows) = some (.val (.sc (.int .i64 rows.length))) := aLen_mkL Tryz.underlying122
theorem ix122 {rows : List (List AV)} {q : IntKind} {i : Nat} : aIndexAddr Tryz.prog H 122 (mkL 1 rows) (.sc (.int q (i : Nat))) = (rows[i]?).map fun r => .val (.ro r) := ix_mkL Tryz.underlying122 sz4 (by decide)
theorem ro122 : rowOk Tryz.prog 122 4 1 1 = true := by kernel_rfl
theorem bs122 {x : AV} : aBS1 Tryz.prog H 122 x = if (solid x && decide ((acells x).length = 1) && (acells x).all one) = true then some (.new (.own H.length 0 1 1 0) ⟨4, 1, 0, true, acells x, .cells⟩) else bsElse Tryz.prog H 122 x := bs1_if ro122
theorem bz122 {ρ : Operand → AV} {d : Option Tmp} {ty : TypeId} {pos : String} {af : Array Edge} {g : Option (Nat × Bool)} : aop Tryz.prog H ρ ⟨d, .buildSlice 122 0 #[], ty, pos, af, g⟩ = some (.new .z ⟨4, 1, 0, true, [], .cells⟩) := by kernel_rfl
theorem lo122 {b i n sz ver : Nat} : aLen Tryz.prog H 122 (.own b i n sz ver) = some (.val (.sc (.int .i64 n))) := aLen_slice Tryz.underlying122 rfl
theorem ixo122 {b n i ver j : Nat} {q : IntKind} : aIndexAddr Tryz.prog H 122 (.own b j n 1 ver) (.sc (.int q (i : Nat))) = (match blkAt H b ver with | some _ => if i < n then some (.val (.ptr b ((j + i) * 1) ver)) else none | none => none) := ixo_eq Tryz.underlying122 sz4
theorem len124 {sz : Nat} {rows : List (List AV)} : aLen Tryz.prog H 124 (mkL sz rows) = some (.val (.sc (.int .i64 rows.length))) := aLen_mkL Tryz.underlying124
theorem ix124 {rows : List (List AV)} {q : IntKind} {i : Nat} : aIndexAddr Tryz.prog H 124 (mkL 1 rows) (.sc (.int q (i : Nat))) = (rows[i]?).map fun r => .val (.ro r) := ix_mkL Tryz.underlying124 sz85 (by decide)
theorem ro124 : rowOk Tryz.prog 124 85 1 24 = true := by kernel_rfl
theorem bs124 {x : AV} : aBS1 Tryz.prog H 124 x = if (solid x && decide ((acells x).length = 1) && (acells x).all one) = true then some (.new (.own H.length 0 1 1 0) ⟨85, 1, 0, true, acells x, .cells⟩) else bsElse Tryz.prog H 124 x := bs1_if ro124
theorem bz124 {ρ : Operand → AV} {d : Option Tmp} {ty : TypeId} {pos : String} {af : Array Edge} {g : Option (Nat × Bool)} : aop Tryz.prog H ρ ⟨d, .buildSlice 124 0 #[], ty, pos, af, g⟩ = some (.new .z ⟨85, 1, 0, true, [], .cells⟩) := by kernel_rfl
theorem lo124 {b i n sz ver : Nat} : aLen Tryz.prog H 124 (.own b i n sz ver) = some (.val (.sc (.int .i64 n))) := aLen_slice Tryz.underlying124 rfl
theorem ixo124 {b n i ver j : Nat} {q : IntKind} : aIndexAddr Tryz.prog H 124 (.own b j n 1 ver) (.sc (.int q (i : Nat))) = (match blkAt H b ver with | some _ => if i < n then some (.val (.ptr b ((j + i) * 1) ver)) else none | none => none) := ixo_eq Tryz.underlying124 sz85
theorem len130 {sz : Nat} {rows : List (List AV)} : aLen Tryz.prog H 130 (mkL sz rows) = some (.val (.sc (.int .i64 rows.length))) := aLen_mkL Tryz.underlying130
theorem ix130 {rows : List (List AV)} {q : IntKind} {i : Nat} : aIndexAddr Tryz.prog H 130 (mkL 1 rows) (.sc (.int q (i : Nat))) = (rows[i]?).map fun r => .val (.ro r) := ix_mkL Tryz.underlying130 sz5 (by decide)
theorem ro130 : rowOk Tryz.prog 130 5 1 1 = true := by kernel_rfl
theorem bs130 {x : AV} : aBS1 Tryz.prog H 130 x = if (solid x && decide ((acells x).length = 1) && (acells x).all one) = true then some (.new (.own H.length 0 1 1 0) ⟨5, 1, 0, true, acells x, .cells⟩) else bsElse Tryz.prog H 130 x := bs1_if ro130
theorem bz130 {ρ : Operand → AV} {d : Option Tmp} {ty : TypeId} {pos : String} {af : Array Edge} {g : Option (Nat × Bool)} : aop Tryz.prog H ρ ⟨d, .buildSlice 130 0 #[], ty, pos, af, g⟩ = some (.new .z ⟨5, 1, 0, true, [], .cells⟩) := by kernel_rfl
theorem lo130 {b i n sz ver : Nat} : aLen Tryz.prog H 130 (.own b i n sz ver) = some (.val (.sc (.int .i64 n))) := aLen_slice Tryz.underlying130 rfl
theorem ixo130 {b n i ver j : Nat} {q : IntKind} : aIndexAddr Tryz.prog H 130 (.own b j n 1 ver) (.sc (.int q (i : Nat))) = (match blkAt H b ver with | some _ => if i < n then some (.val (.ptr b ((j + i) * 1) ver)) else none | none => none) := ixo_eq Tryz.underlying130 sz5
theorem len175 {sz : Nat} {rows : List (List AV)} : aLen Tryz.prog H 175 (mkL sz rows) = some (.val (.sc (.int .i64 rows.length))) := aLen_mkL Tryz.underlying175
theorem ix175 {rows : List (List AV)} {q : IntKind} {i : Nat} : aIndexAddr Tryz.prog H 175 (mkL 1 rows) (.sc (.int q (i : Nat))) = (rows[i]?).map fun r => .val (.ro r) := ix_mkL Tryz.underlying175 sz24 (by decide)
theorem ro175 : rowOk Tryz.prog 175 24 1 24 = true := by kernel_rfl
theorem bs175 {x : AV} : aBS1 Tryz.prog H 175 x = if (solid x && decide ((acells x).length = 1) && (acells x).all one) = true then some (.new (.own H.length 0 1 1 0) ⟨24, 1, 0, true, acells x, .cells⟩) else bsElse Tryz.prog H 175 x := bs1_if ro175
theorem bz175 {ρ : Operand → AV} {d : Option Tmp} {ty : TypeId} {pos : String} {af : Array Edge} {g : Option (Nat × Bool)} : aop Tryz.prog H ρ ⟨d, .buildSlice 175 0 #[], ty, pos, af, g⟩ = some (.new .z ⟨24, 1, 0, true, [], .cells⟩) := by kernel_rfl
theorem lo175 {b i n sz ver : Nat} : aLen Tryz.prog H 175 (.own b i n sz ver) = some (.val (.sc (.int .i64 n))) := aLen_slice Tryz.underlying175 rfl
theorem ixo175 {b n i ver j : Nat} {q : IntKind} : aIndexAddr Tryz.prog H 175 (.own b j n 1 ver) (.sc (.int q (i : Nat))) = (match blkAt H b ver with | some _ => if i < n then some (.val (.ptr b ((j + i) * 1) ver)) else none | none => none) := ixo_eq Tryz.underlying175 sz24
theorem ixa115_0 {a b : AV} {q : IntKind} : aIndexAddr Tryz.prog H 115 (.ro [a, b]) (.sc (.int q 0)) = some (.val (.ro [a, b])) := ixa_eq (cs := [a, b]) (i := 0) Tryz.underlying115 sz3 (by decide) (by simp)
theorem ixa115_1 {a b : AV} {q : IntKind} : aIndexAddr Tryz.prog H 115 (.ro [a, b]) (.sc (.int q 1)) = some (.val (.ro [b])) := ixa_eq (cs := [a, b]) (i := 1) Tryz.underlying115 sz3 (by decide) (by simp)
theorem bl24_3 {ρ : Operand → AV} {d : Option Tmp} {ty : TypeId} {x y z : Operand} {pos : String} {af : Array Edge} {g : Option (Nat × Bool)} : aop Tryz.prog H ρ ⟨d, .buildSlice 24 3 #[(0, x), (1, y), (2, z)], ty, pos, af, g⟩ = if (okU 4 (ρ x) && okU 4 (ρ y) && okU 4 (ρ z)) = true then some (.new (.own H.length 0 3 4 0) ⟨35, 4, 0, true, acells (ρ x) ++ (acells (ρ y) ++ acells (ρ z)), .cells⟩) else aBSL Tryz.prog H 24 3 [(0, ρ x), (1, ρ y), (2, ρ z)] := bs3_if ro24 (by decide)
theorem bl175_2 {ρ : Operand → AV} {d : Option Tmp} {ty : TypeId} {x y : Operand} {pos : String} {af : Array Edge} {g : Option (Nat × Bool)} : aop Tryz.prog H ρ ⟨d, .buildSlice 175 2 #[(0, x), (1, y)], ty, pos, af, g⟩ = if (okU 1 (ρ x) && okU 1 (ρ y)) = true then some (.new (.own H.length 0 2 1 0) ⟨24, 1, 0, true, acells (ρ x) ++ acells (ρ y), .cells⟩) else aBSL Tryz.prog H 175 2 [(0, ρ x), (1, ρ y)] := bs2_if ro175 (by decide)
theorem mk122 {n : Nat} {q r : IntKind} : aMk Tryz.prog H 122 (.sc (.int q (n : Nat))) (.sc (.int r (n : Nat))) = if (decide (n * 1 ≤ 140737488355328) && decide (n ≤ maxLen)) = true then some (.new (.own H.length 0 n 1 0) ⟨4, 1, 0, true, (List.replicate n [.sc (.bool false)]).flatten, .cells⟩) else none := aMk_nn (by kernel_rfl) (by kernel_rfl) (by kernel_rfl)
theorem mk124 {n : Nat} {q r : IntKind} : aMk Tryz.prog H 124 (.sc (.int q (n : Nat))) (.sc (.int r (n : Nat))) = if (decide (n * 24 ≤ 140737488355328) && decide (n ≤ maxLen)) = true then some (.new (.own H.length 0 n 1 0) ⟨85, 1, 0, true, (List.replicate n [.sc (.slice none 0 0)]).flatten, .cells⟩) else none := aMk_nn (by kernel_rfl) (by kernel_rfl) (by kernel_rfl)
theorem cw82 {b i n ver : Nat} {alt : Option Res} : aClear Tryz.prog H 82 (.own b i n 2 ver) alt = (match blkAt H b ver with | some blk => if (i + n) * 2 ≤ blk.cells.length then some (if n = 0 then .val (.tup []) else .upd (.tup []) b { blk with cells := splice blk.cells (i * 2) (List.replicate n [.sc (.int .i64 0), .sc (.int .i64 0)]).flatten }) else none | none => none) := aClear_own (e := 115) (by kernel_rfl) (by kernel_rfl)
theorem cv3_148 {ρ : Operand → AV} {op : Oper} {q : IntKind} {n : Int} : aConv2 Tryz.prog H ρ op 3 148 (.sc (.int q n)) = some (.val (.sc (.int .u64 (IntKind.u64.wrap n)))) := aConv2_int (by kernel_rfl) Tryz.underlying148
theorem cv148_3 {ρ : Operand → AV} {op : Oper} {q : IntKind} {n : Int} : aConv2 Tryz.prog H ρ op 148 3 (.sc (.int q n)) = some (.val (.sc (.int .i64 (IntKind.i64.wrap n)))) := aConv2_int (by kernel_rfl) Tryz.underlying3
def ty2 := (aj (aj @Tryz.underlying2 @sz2) (aj @ag2 @zk2))
def ty3 := (aj (aj @Tryz.underlying3 @sz3) (aj @ag3 (aj @zk3 @al3)))
def ty4 := (aj (aj @Tryz.underlying4 @sz4) (aj @ag4 @zk4))
def ty5 := (aj (aj @Tryz.underlying5 @sz5) (aj @ag5 @zk5))
def ty9 := (aj (aj @Tryz.underlying9 @sz9) (aj @ag9 (aj @zk9 @al9)))
def ty24 := (aj (aj (aj @Tryz.underlying24 @sz24) (aj @ag24 (aj @zk24 @len24))) (aj (aj @ix24 @bs24) (aj @bz24 (aj @lo24 @ixo24))))
def ty26 := (aj (aj @Tryz.underlying26 @sz26) (aj @ag26 (aj @zk26 @bd26)))
def ty28 := (aj (aj @Tryz.underlying28 (aj @sz28 @ag28)) (aj @zk28 (aj @al28 @bd28)))
def ty33 := (aj (aj @Tryz.underlying33 (aj @sz33 @ag33)) (aj @zk33 (aj @al33 @bd33)))
def ty35 := (aj (aj @Tryz.underlying35 (aj @sz35 @ag35)) (aj @zk35 (aj @al35 @bd35)))
def ty36 := (aj (aj (aj @Tryz.underlying36 @sz36) (aj @ag36 (aj @zk36 @al36))) (aj (aj @len36 (aj @ix36 @bs36)) (aj @bz36 (aj @lo36 @ixo36))))
def ty38 := (aj (aj (aj @Tryz.underlying38 @sz38) (aj @ag38 (aj @zk38 @len38))) (aj (aj @ix38 @bs38) (aj @bz38 (aj @lo38 @ixo38))))
def ty40 := (aj (aj @Tryz.underlying40 (aj @sz40 @ag40)) (aj @zk40 (aj @al40 @bd40)))
def ty46 := (aj (aj @Tryz.underlying46 @sz46) (aj @ag46 @zk46))
def ty48 := (aj (aj (aj @Tryz.underlying48 @sz48) (aj @ag48 (aj @zk48 @len48))) (aj (aj @ix48 @bs48) (aj @bz48 (aj @lo48 @ixo48))))
def ty50 := (aj (aj @Tryz.underlying50 (aj @sz50 @ag50)) (aj @zk50 (aj @al50 @bd50)))
def ty52 := (aj (aj (aj @Tryz.underlying52 @sz52) (aj @ag52 (aj @zk52 @len52))) (aj (aj @ix52 @bs52) (aj @bz52 (aj @lo52 @ixo52))))
def ty54 := (aj (aj @Tryz.underlying54 (aj @sz54 @ag54)) (aj @zk54 (aj @al54 @bd54)))
def ty62 := (aj (aj (aj @Tryz.underlying62 @sz62) (aj @ag62 (aj @zk62 @len62))) (aj (aj @ix62 @bs62) (aj @bz62 (aj @lo62 @ixo62))))
def ty65 := (aj (aj @Tryz.underlying65 (aj @sz65 @ag65)) (aj @zk65 (aj @al65 @bd65)))
def ty70 := (aj (aj @Tryz.underlying70 @sz70) (aj @ag70 @zk70))
def ty82 := (aj (aj (aj @Tryz.underlying82 @sz82) (aj @ag82 (aj @zk82 @al82))) (aj (aj @len82 (aj @ix82 @bs82)) (aj @bz82 (aj @lo82 @ixo82))))
def ty84 := (aj (aj @Tryz.underlying84 @sz84) (aj @ag84 (aj @zk84 @al84)))
def ty85 := (aj (aj (aj @Tryz.underlying85 @sz85) (aj @ag85 (aj @zk85 @len85))) (aj (aj @ix85 @bs85) (aj @bz85 (aj @lo85 @ixo85))))
def ty88 := (aj (aj @Tryz.underlying88 @sz88) (aj @ag88 @zk88))
def ty93 := (aj (aj @Tryz.underlying93 @sz93) (aj @ag93 @zk93))
def ty101 := (aj (aj @Tryz.underlying101 @sz101) (aj @ag101 @zk101))
def ty105 := (aj (aj @Tryz.underlying105 @sz105) (aj @ag105 (aj @zk105 @al105)))
def ty115 := (aj (aj (aj @Tryz.underlying115 @sz115) (aj @ag115 @zk115)) (aj (aj @al115 @bd115) (aj @ixa115_0 @ixa115_1)))
def ty118 := (aj (aj @Tryz.underlying118 @sz118) (aj @ag118 @zk118))
def ty121 := (aj (aj @Tryz.underlying121 @sz121) (aj @ag121 @zk121))
def ty122 := (aj (aj (aj @Tryz.underlying122 @sz122) (aj @ag122 (aj @zk122 @len122))) (aj (aj @ix122 @bs122) (aj @bz122 (aj @lo122 @ixo122))))
def ty124 := (aj (aj (aj @Tryz.underlying124 @sz124) (aj @ag124 (aj @zk124 @len124))) (aj (aj @ix124 @bs124) (aj @bz124 (aj @lo124 @ixo124))))
def ty129 := (aj (aj @Tryz.underlying129 @sz129) (aj @ag129 @zk129))
def ty130 := (aj (aj (aj @Tryz.underlying130 @sz130) (aj @ag130 (aj @zk130 @len130))) (aj (aj @ix130 @bs130) (aj @bz130 (aj @lo130 @ixo130))))
def ty132 := (aj (aj @Tryz.underlying132 @sz132) (aj @ag132 (aj @zk132 @al132)))
def ty148 := (aj (aj @Tryz.underlying148 @sz148) (aj @ag148 @zk148))
def ty153 := (aj (aj @Tryz.underlying153 @sz153) (aj @ag153 @zk153))
def ty173 := (aj (aj @Tryz.underlying173 @sz173) (aj @ag173 @zk173))
def ty175 := (aj (aj (aj @Tryz.underlying175 @sz175) (aj @ag175 (aj @zk175 @len175))) (aj (aj @ix175 @bs175) (aj @bz175 (aj @lo175 @ixo175))))
def ts0 := (aj @ty3 (aj @ty85 @ty115))
def rg80 := (aj (aj @fz0_80 @dy80) (aj @cf0_dyn (aj @cl0_81 @ts0)))
def rg81 := (aj (aj @fz0_81 (aj @dy81 @cf0_dyn)) (aj @cl0_113 (aj @ty3 @ty85)))
def rg113 := (aj (aj @fz0_113 @dy113) (aj @cf0_dyn (aj @cl0_137 @ty3)))
def rg137 := (aj (aj @fz0_137 @dy137) (aj @cf0_dyn @ty3))
def ts2 := (aj (aj (aj @ty2 (aj @ty3 @ty4)) (aj (aj @ty9 @ty24) (aj @ty26 @ty33))) (aj (aj (aj @ty35 @ty38) (aj @ty40 @ty48)) (aj (aj @ty50 @ty52) (aj @ty54 @ty105))))
def ts3 := (aj (aj (aj (aj @ty2 @ty3) (aj @ty4 @ty9)) (aj (aj @ty24 @ty26) (aj @ty33 @ty35))) (aj (aj (aj @ty36 @ty38) (aj @ty40 @ty48)) (aj (aj @ty50 @ty52) (aj @ty54 @ty105))))
def rf5 := (aj (aj (aj @fz5 @dy5) (aj @cl7 (aj @cl14 @cl15))) (aj (aj @cl17 @cl20) (aj @cl21 (aj @cl22 @ts3))))
def ts5 := (aj (aj (aj @ty2 @ty3) (aj @ty5 @ty9)) (aj (aj @ty24 @ty26) (aj @ty33 @ty35)))
def rf8 := (aj @fz8 (aj @dy8 @ts5))
def rf10 := (aj (aj @fz10 @dy10) (aj @ty9 @ty28))
def rf12 := (aj (aj @fz12 @dy12) (aj @cl10 (aj @ty9 @ty28)))
def rf14 := (aj (aj @fz14 @dy14) (aj @cl25 @ts2))
def ts6 := (aj (aj (aj (aj @ty2 @ty3) (aj @ty4 @ty9)) (aj (aj @ty24 @ty26) (aj @ty28 (aj @ty33 @ty35)))) (aj (aj (aj @ty36 @ty38) (aj @ty40 (aj @ty48 @ty50))) (aj (aj @ty52 @ty54) (aj @ty62 (aj @ty65 @ty105)))))
def rf15 := (aj (aj (aj @fz15 (aj @dy15 @cl8)) (aj @cl10 (aj @cl12 @cl17))) (aj (aj @cl26 (aj @cl27 @cl28)) (aj (aj @cl29 @cl30) (aj @cl31 @ts6))))
def ts7 := (aj (aj (aj (aj @ty2 @ty3) (aj @ty9 @ty24)) (aj (aj @ty26 @ty33) (aj @ty35 @ty36))) (aj (aj (aj @ty38 @ty40) (aj @ty46 @ty48)) (aj (aj @ty50 @ty52) (aj @ty54 @ty105))))
def rf17 := (aj (aj @fz17 (aj @dy17 @cl35)) (aj @cl36 (aj @cl37 @ts7)))
def ts8 := (aj (aj (aj @ty2 (aj @ty3 @ty9)) (aj (aj @ty24 @ty26) (aj @ty33 @ty35))) (aj (aj @ty38 (aj @ty40 @ty48)) (aj (aj @ty50 @ty52) (aj @ty54 @ty105))))
def ts9 := (aj (aj (aj @ty2 (aj @ty3 @ty4)) (aj @ty9 (aj @ty24 @ty26))) (aj (aj @ty33 (aj @ty35 @ty48)) (aj (aj @ty50 @ty52) (aj @ty54 @ty105))))
def rf20 := (aj (aj @fz20 (aj @dy20 @rs20_6)) (aj @cl34 (aj @cl39 @ts9)))
def ts10 := (aj (aj (aj @ty2 (aj @ty3 @ty9)) (aj (aj @ty24 @ty26) (aj @ty33 @ty35))) (aj (aj (aj @ty36 @ty38) (aj @ty40 @ty48)) (aj (aj @ty50 @ty52) (aj @ty54 @ty105))))
def rf21 := (aj (aj @fz21 (aj @dy21 @rs21_5)) (aj @cl40 (aj @cl41 @ts10)))
def ts11 := (aj @ty3 (aj @ty9 @ty36))
def rf22 := (aj @fz22 (aj @dy22 @ts11))
def rf25 := (aj @fz25 (aj @dy25 @ts8))
def ts13 := (aj (aj (aj (aj @ty2 @ty3) (aj @ty4 (aj @ty9 @ty24))) (aj (aj @ty26 @ty33) (aj @ty35 (aj @ty36 @ty38)))) (aj (aj (aj @ty40 @ty48) (aj @ty50 (aj @ty52 @ty54))) (aj (aj @ty82 (aj @ty84 @ty85)) (aj @ty88 (aj @ty105 @ty115)))))
def rf26 := (aj (aj (aj @fz26 @dy26) (aj @cl35 @cl46)) (aj (aj @cl47 @cl48) (aj @cl49 (aj @cl50 @ts13))))
def ts14 := (aj (aj (aj (aj @ty2 @ty3) (aj @ty4 @ty9)) (aj (aj @ty24 @ty26) (aj @ty28 (aj @ty33 @ty35)))) (aj (aj (aj @ty36 @ty38) (aj @ty40 @ty48)) (aj (aj @ty50 @ty52) (aj @ty54 (aj @ty62 @ty105)))))
def rf27 := (aj (aj (aj @fz27 @dy27) (aj @cl26 @cl51)) (aj (aj @cl52 @cl53) (aj @cl54 (aj @cl55 @ts14))))
def ts15 := (aj (aj @ty3 (aj @ty4 @ty9)) (aj @ty28 (aj @ty62 @ty93)))
def rf28 := (aj (aj @fz28 (aj @dy28 @cl54)) (aj @cl56 (aj @cl58 @ts15)))
def ts16 := (aj (aj (aj @ty2 @ty3) (aj @ty9 (aj @ty24 @ty26))) (aj (aj @ty28 (aj @ty33 @ty35)) (aj @ty36 (aj @ty62 @ty65))))
def rf29 := (aj (aj @fz29 @dy29) (aj @cl52 (aj @cl59 @ts16)))
def ts17 := (aj (aj (aj (aj @ty2 @ty3) (aj @ty9 @ty24)) (aj (aj @ty26 @ty28) (aj @ty33 @ty35))) (aj (aj (aj @ty36 @ty38) (aj @ty48 @ty50)) (aj (aj @ty52 @ty54) (aj @ty62 (aj @ty65 @ty105)))))
def rf30 := (aj (aj (aj @fz30 @dy30) (aj @cl8 (aj @cl10 @cl12))) (aj (aj @cl29 (aj @cl51 @cl55)) (aj @cl60 (aj @cl61 @ts17))))
def ts18 := (aj (aj (aj @ty2 (aj @ty3 @ty9)) (aj (aj @ty24 @ty26) (aj @ty33 @ty35))) (aj (aj (aj @ty38 @ty40) (aj @ty48 @ty50)) (aj (aj @ty52 @ty54) (aj @ty70 @ty105))))
def rf31 := (aj (aj @fz31 @dy31) (aj @cl32 (aj @cl33 @ts18)))
def ts19 := (aj (aj (aj @ty2 (aj @ty3 @ty9)) (aj (aj @ty24 @ty26) (aj @ty33 @ty35))) (aj (aj @ty38 (aj @ty48 @ty50)) (aj (aj @ty52 @ty54) (aj @ty70 @ty105))))
def rf32 := (aj (aj @fz32 @dy32) (aj @cl62 @ts19))
def ts20 := (aj (aj (aj @ty2 (aj @ty3 @ty9)) (aj @ty24 (aj @ty26 @ty33))) (aj (aj @ty35 (aj @ty48 @ty50)) (aj @ty52 (aj @ty54 @ty105))))
def rf33 := (aj @fz33 (aj @dy33 @ts20))
def ts21 := (aj (aj @ty2 (aj @ty3 @ty9)) (aj (aj @ty24 @ty26) (aj @ty33 @ty35)))
def rf34 := (aj @fz34 (aj @dy34 @ts21))
def ts22 := (aj (aj (aj (aj @ty2 @ty3) (aj @ty9 @ty24)) (aj (aj @ty26 @ty33) (aj @ty35 @ty36))) (aj (aj (aj @ty38 @ty40) (aj @ty48 @ty50)) (aj (aj @ty52 @ty54) (aj @ty101 @ty105))))
def rf35 := (aj (aj @fz35 (aj @dy35 @cl63)) (aj @cl64 (aj @cl65 @ts22)))
def ts23 := (aj (aj @ty3 @ty9) (aj @ty36 @ty46))
def rf36 := (aj (aj @fz36 @dy36) (aj @cl66 @ts23))
def rf37 := (aj (aj @fz37 @dy37) (aj @cl38 @ty9))
def rf38 := (aj (aj @fz38 @dy38) (aj @cl67 @ty9))
def ts24 := (aj (aj @ty3 @ty9) (aj @ty52 @ty105))
def rf39 := (aj @fz39 (aj @dy39 @ts24))
def ts25 := (aj (aj (aj @ty2 (aj @ty3 @ty9)) (aj @ty24 (aj @ty26 @ty33))) (aj (aj @ty35 (aj @ty36 @ty48)) (aj (aj @ty50 @ty52) (aj @ty54 @ty105))))
def rf40 := (aj (aj @fz40 @dy40) (aj @cl41 (aj @cl68 @ts25)))
def ts26 := (aj (aj @ty2 (aj @ty3 @ty9)) (aj (aj @ty24 @ty33) (aj @ty35 @ty36)))
def rf41 := (aj (aj @fz41 @dy41) (aj @cl69 @ts26))
def ts29 := (aj (aj (aj (aj @ty2 @ty3) (aj @ty9 @ty24)) (aj (aj @ty26 @ty33) (aj @ty35 (aj @ty36 @ty38)))) (aj (aj (aj @ty40 @ty48) (aj @ty50 (aj @ty52 @ty54))) (aj (aj @ty82 @ty101) (aj @ty105 (aj @ty115 @ty118)))))
def rf46 := (aj (aj (aj @fz46 @dy46) (aj @cl35 (aj @cl63 @cl77))) (aj (aj @cl78 @cl79) (aj @cl80 (aj @cl82 @ts29))))
def ts30 := (aj (aj (aj @ty2 (aj @ty3 @ty9)) (aj @ty24 (aj @ty26 @ty33))) (aj (aj @ty35 (aj @ty48 @ty50)) (aj (aj @ty52 @ty54) (aj @ty105 @ty121))))
def rf47 := (aj (aj @fz47 @dy47) (aj @cl83 (aj @cl84 @ts30)))
def ts31 := (aj (aj @ty3 (aj @ty4 @ty82)) (aj (aj @ty85 @ty115) (aj @ty122 @ty124)))
def rf48 := (aj (aj @fz48 (aj @dy48 @cl85)) (aj @cl86 (aj @cl87 @ts31)))
def ts32 := (aj @ty3 (aj @ty85 @ty88))
def rf49 := (aj (aj @fz49 @dy49) (aj @cl88 @ts32))
def ts33 := (aj (aj @ty3 @ty9) (aj @ty36 @ty84))
def rf50 := (aj @fz50 (aj @dy50 @ts33))
def rf51 := (aj (aj @fz51 @dy51) (aj @cl89 @ts11))
def ts34 := (aj (aj (aj @ty2 (aj @ty3 @ty5)) (aj @ty9 (aj @ty24 @ty26))) (aj (aj @ty33 (aj @ty35 @ty36)) (aj @ty129 (aj @ty130 @ty132))))
def rf52 := (aj (aj @fz52 (aj @dy52 @cl51)) (aj @cl90 (aj @cl91 @ts34)))
def ts35 := (aj (aj (aj @ty2 @ty3) (aj @ty9 (aj @ty24 @ty26))) (aj (aj @ty33 @ty35) (aj @ty52 (aj @ty54 @ty105))))
def rf53 := (aj (aj @fz53 @dy53) (aj @cl61 @ts35))
def ts36 := (aj (aj @ty3 @ty9) (aj @ty28 @ty62))
def rf54 := (aj (aj @fz54 @dy54) (aj @cl92 @ts36))
def ts37 := (aj (aj (aj @ty2 @ty3) (aj @ty9 (aj @ty24 @ty26))) (aj (aj @ty33 (aj @ty35 @ty36)) (aj @ty52 (aj @ty54 @ty105))))
def rf55 := (aj (aj @fz55 @dy55) (aj @cl93 (aj @cl94 @ts37)))
def rf56 := (aj (aj @fz56 @dy56) (aj @cl57 (aj @ty9 @ty28)))
def ts38 := (aj @ty3 (aj @ty9 @ty28))
def rf57 := (aj @fz57 (aj @dy57 @ts38))
def ts39 := (aj (aj @ty3 @ty9) (aj @ty28 (aj @ty62 @ty93)))
def rf58 := (aj (aj @fz58 @dy58) (aj @cl95 @ts39))
def rf59 := (aj (aj @fz59 @dy59) (aj @cl95 (aj @cl96 @ts39)))
def rf60 := (aj @fz60 (aj @dy60 @ts35))
def rf61 := (aj (aj @fz61 @dy61) (aj @cl93 (aj @cl94 @ts37)))
def ts40 := (aj (aj (aj @ty2 (aj @ty3 @ty9)) (aj @ty24 (aj @ty26 @ty33))) (aj (aj @ty35 (aj @ty38 @ty48)) (aj (aj @ty50 @ty52) (aj @ty54 @ty105))))
def rf62 := (aj @fz62 (aj @dy62 @ts40))
def rf63 := (aj (aj @fz63 @dy63) (aj @cl97 @ts25))
def rf64 := (aj @fz64 (aj @dy64 @ts37))
def rf65 := (aj (aj @fz65 (aj @dy65 @cl98)) (aj @cl99 (aj @ty9 @ty36)))
def rf66 := (aj @fz66 (aj @dy66 @ts11))
def rf67 := (aj (aj @fz67 @dy67) (aj @ty3 @ty9))
def rf68 := (aj (aj @fz68 @dy68) (aj @cl41 @ts37))
def ts41 := (aj (aj @ty3 @ty4) (aj @ty9 @ty36))
def rf69 := (aj @fz69 (aj @dy69 @ts41))
def ts48 := (aj (aj @ty3 @ty9) (aj @ty36 @ty148))
def rf77 := (aj (aj @fz77 (aj @dy77 @cl109)) (aj (aj @cl110 @cv3_148) (aj @cv148_3 @ts48)))
def ts49 := (aj (aj (aj @ty2 (aj @ty3 @ty9)) (aj @ty24 (aj @ty26 @ty33))) (aj (aj @ty35 (aj @ty36 @ty52)) (aj (aj @ty54 @ty82) (aj @ty105 @ty115))))
def rf78 := (aj (aj @fz78 @dy78) (aj @cl77 @ts49))
def ts51 := (aj @ty3 (aj @ty82 @ty115))
def rf82 := (aj (aj @fz82 @dy82) (aj @cw82 @ts51))
def ts52 := (aj (aj (aj @ty2 (aj @ty3 @ty9)) (aj @ty24 (aj @ty26 @ty33))) (aj (aj @ty35 (aj @ty48 @ty52)) (aj @ty54 (aj @ty105 @ty121))))
def rf83 := (aj (aj @fz83 @dy83) (aj @cl114 @ts52))
def rf84 := (aj @fz84 (aj @dy84 @ts35))
def ts53 := (aj (aj @ty3 @ty4) (aj @ty85 (aj @ty122 @ty124)))
def rf85 := (aj (aj @fz85 @dy85) (aj @mk122 @ts53))
def ts54 := (aj (aj @ty3 @ty82) (aj @ty85 (aj @ty115 @ty124)))
def rf86 := (aj (aj @fz86 @dy86) (aj @mk124 @ts54))
def rf87 := (aj @fz87 (aj @dy87 @ty3))
def rf88 := (aj (aj @fz88 @dy88) (aj @ty3 @ty85))
def rf89 := (aj @fz89 (aj @dy89 @ts11))
def ts55 := (aj (aj @ty5 @ty9) (aj @ty129 (aj @ty130 @ty132)))
def rf90 := (aj (aj @fz90 @dy90) (aj @cl115 @ts55))
def ts56 := (aj (aj @ty3 (aj @ty5 @ty129)) (aj @ty130 (aj @ty132 @ty153)))
def rf91 := (aj @fz91 (aj @dy91 @ts56))
def rf92 := (aj @fz92 (aj @dy92 @ts36))
def rf93 := (aj (aj @fz93 (aj @dy93 @cl98)) (aj @cl99 (aj @cl116 @ts26)))
def ts57 := (aj (aj (aj @ty2 @ty3) (aj @ty9 (aj @ty24 @ty26))) (aj (aj @ty33 (aj @ty35 @ty52)) (aj @ty54 (aj @ty105 @ty175))))
def rf94 := (aj (aj @fz94 (aj @dy94 @cl117)) (aj @bl24_3 (aj @bl175_2 @ts57)))
def rf95 := (aj @fz95 (aj @dy95 @ts36))
def rf96 := (aj (aj @fz96 @dy96) (aj @cl57 (aj @ty9 @ty28)))
def rf97 := (aj (aj @fz97 @dy97) (aj @cl65 @ts37))
def ts61 := (aj (aj @ty2 (aj @ty3 @ty9)) (aj @ty24 (aj @ty33 @ty35)))
def rf109 := (aj (aj @fz109 @dy109) (aj @cl126 (aj @ty4 @ty9)))
def rf110 := (aj @fz110 (aj @dy110 @ty9))
def ts64 := (aj (aj (aj @ty2 @ty3) (aj @ty9 (aj @ty24 @ty26))) (aj (aj @ty33 (aj @ty35 @ty48)) (aj @ty52 (aj @ty54 @ty105))))
def rf114 := (aj @fz114 (aj @dy114 @ts64))
def ts65 := (aj (aj @ty5 @ty129) (aj @ty130 (aj @ty132 @ty173)))
def rf115 := (aj @fz115 (aj @dy115 @ts65))
def rf116 := (aj (aj @fz116 @dy116) (aj @ty9 @ty36))
def ts66 := (aj (aj @ty2 (aj @ty3 @ty9)) (aj (aj @ty24 @ty33) (aj @ty35 @ty175)))
def rf117 := (aj (aj @fz117 @dy117) (aj @cl139 @ts66))
def rf126 := (aj @fz126 (aj @dy126 @ty9))
def rf139 := (aj @fz139 (aj @dy139 @ts61))
end Go.Proofs.YtpgipdajinkdgaaGreatA
