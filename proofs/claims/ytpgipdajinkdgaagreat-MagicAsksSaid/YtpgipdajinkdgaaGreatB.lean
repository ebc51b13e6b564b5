/- A part of the proof of MagicAsks: functions of the program, run by the evaluator. -/

/- Demands: plain, Covers, covers, equality. -/
import Derived.Test.YtpgipdajinkdgaaGreatA
namespace Go.Proofs.YtpgipdajinkdgaaGreatA
open Go Go.RowKit
set_option linter.all false
set_option linter.unusedSectionVars false
set_option linter.constructorNameAsVariable false
set_option linter.unusedVariables false
set_option linter.unusedSimpArgs false
theorem heldA : Tryz.prog.stoodInHeld 28 = false := by kernel_rfl
theorem guardA : Tryz.prog.eqGuardType Tryz.prog.depth 28 = false := by kernel_rfl
section
variable {H : List Blk} {p q : Operand} {a b c e : ByteArray}
theorem eqA : aBin Tryz.prog H .eql 28 p q (.agg [.sc (.string a), .sc (.string b)]) (.agg [.sc (.string c), .sc (.string e)]) = some (.val (.sc (.bool (decide (a = c) && decide (b = e))))) := aBin_SS (.inl rfl) guardA (eqIn_SS Tryz.underlying28 rfl rfl rfl rfl (by decide) (by decide) heldA Tryz.underlying9)
theorem neA : aBin Tryz.prog H .neq 28 p q (.agg [.sc (.string a), .sc (.string b)]) (.agg [.sc (.string c), .sc (.string e)]) = some (.val (.sc (.bool (!(decide (a = c) && decide (b = e)))))) := aBin_SS (.inr rfl) guardA (eqIn_SS Tryz.underlying28 rfl rfl rfl rfl (by decide) (by decide) heldA Tryz.underlying9)
end
def plainB (s : ByteArray) (j : Nat) : Bool := decide (((byteAt s j).toNat : Int) = 98) || decide (((byteAt s j).toNat : Int) = 102)
def plainD (s : ByteArray) : Bool := (List.range s.size).all (plainB s)
theorem all_to {n : Nat} {p : Nat → Bool} (h : ∀ j, j < n → p j = true) : (List.range n).all p = true := by simpa using h
theorem all_not {n m : Nat} {p : Nat → Bool} (hm : m < n) (h : p m = false) : (List.range n).all p = false := by
  rw [← Bool.not_eq_true, List.all_eq_true]
  intro hh
  have := hh m (by simpa using hm)
  rw [h] at this
  cases this
def covB (a b : D2) (j : Nat) : Bool := !(decide (((byteAt a.2 j).toNat : Int) = 98) && !decide (((byteAt b.2 j).toNat : Int) = 98))
def covD (a b : D2) : Bool := decide (a.1 = b.1) && decide (a.2.size = b.2.size) && (List.range a.2.size).all (covB a b)
theorem covS {a b : D2} {j : Nat} (h : (!covB a b j) = false) : (((byteAt a.2 j).toNat : Int) = 98 ∧ ((byteAt b.2 j).toNat : Int) = 98) ∨ ¬ ((byteAt a.2 j).toNat : Int) = 98 := by
  simp only [covB, Bool.not_eq_true', Bool.and_eq_false_iff, decide_eq_false_iff_not, Bool.not_eq_false', decide_eq_true_eq] at h
  by_cases h1 : ((byteAt a.2 j).toNat : Int) = 98
  · exact .inl ⟨h1, h.resolve_left (fun hh => hh h1)⟩
  · exact .inr h1
theorem covF {a b : D2} {j : Nat} (h : (!covB a b j) = true) : ((byteAt a.2 j).toNat : Int) = 98 ∧ ¬ ((byteAt b.2 j).toNat : Int) = 98 := by
  simpa only [covB, Bool.not_eq_true', Bool.not_eq_false', Bool.and_eq_true, decide_eq_true_eq, decide_eq_false_iff_not] using h
theorem ex98 {s : ByteArray} {j : Nat} (h : j < s.size) : (s.extract j (j + 1) = ⟨#[98]⟩) = (((byteAt s j).toNat : Int) = 98) := extract_one h 98
theorem le_succ' (j : Nat) : (j ≤ j + 1) = True := by simp
theorem acovers_run (a b : D2) (hs : a.2.size ≤ 1000) (k : Nat) (hk : 1002 ≤ k) : val Tryz.prog cf k 57 [.agg [.sc (.string a.1), .sc (.string a.2)], .agg [.sc (.string b.1), .sc (.string b.2)]] = some (.sc (.bool (covD a b))) := by
  obtain ⟨k, rfl⟩ : ∃ j, k = j + 1 := ⟨k - 1, by omega⟩
  refine val_of (r := .sc (.bool (covD a b))) (H1 := []) ?_ rfl rfl
  rw [arun_body rfl rfl Tryz.func57 rfl (N := 43) rfl]
  obtain ⟨ap, aq⟩ := a
  obtain ⟨bp, bq⟩ := b
  dsimp only at hs
  unfold covD
  by_cases h1 : ap = bp
  case neg => simp only [R0, RC, zipEnv, Nat.reduceLT, Nat.reduceAdd, Nat.reduceEqDiff, Nat.reduceLeDiff, reduceCtorEq, ↓reduceIte, ares, aresult, pr, Int.reduceEq, Int.reduceLT, Int.reduceLE, Nat.reduceSub, Nat.reduceMul, aFieldAddr, aField, aLoad, aStore, aExtract, aBox, aint, rdVar, rdCells, Value.oneCell', splice, Int.reduceNeg, zvar1, chunks, depth, some_map, Nat.reduceBEq, cf_dyn, okU, Tryz.f57, rf57, h1]
  subst h1
  by_cases h2 : aq.size = bq.size
  case neg => simp only [R0, RC, zipEnv, Nat.reduceLT, Nat.reduceAdd, Nat.reduceEqDiff, Nat.reduceLeDiff, reduceCtorEq, ↓reduceIte, ares, aresult, pr, Int.reduceEq, Int.reduceLT, Int.reduceLE, Nat.reduceSub, Nat.reduceMul, aFieldAddr, aField, aLoad, aStore, aExtract, aBox, aint, rdVar, rdCells, Value.oneCell', splice, Int.reduceNeg, zvar1, chunks, depth, some_map, Nat.reduceBEq, cf_dyn, okU, Tryz.f57, rf57, h2, ieq]
  simp only [R0, RC, zipEnv, Nat.reduceLT, Nat.reduceAdd, Nat.reduceEqDiff, Nat.reduceLeDiff, reduceCtorEq, ↓reduceIte, ares, aresult, pr, Int.reduceEq, Int.reduceLT, Int.reduceLE, Nat.reduceSub, Nat.reduceMul, aFieldAddr, aField, aLoad, aStore, aExtract, aBox, aint, rdVar, rdCells, Value.oneCell', splice, Int.reduceNeg, zvar1, chunks, depth, some_map, Nat.reduceBEq, cf_dyn, okU, Tryz.f57, rf57, h2, ieq]
  have hw := wraps (n := aq.size) (by omega)
  generalize hA : aloop _ _ _ _ _ _ _ _ _ _ _ = A
  rcases aloop_nat hA [2, 3, 22, 23] (fun j => ⟨[(2, .ro [.sc (.string ap), .sc (.string aq)]), (3, .ro [.sc (.string ap), .sc (.string bq)]), (22, .sc (.int .i64 bq.size)), (23, .sc (.int .i64 (j : Nat)))], []⟩) bq.size (fun j => !covB (ap, aq) (ap, bq) j) (by omega) rfl rfl (fun j hj hq => by
      have hj' : j < aq.size := by omega
      have hj1 : j + 1 ≤ aq.size := by omega
      have hj2 : j + 1 ≤ bq.size := by omega
      rcases covS hq with ⟨h1, h3⟩ | h1
      · simp only [R0, RC, zipEnv, Nat.reduceLT, Nat.reduceAdd, Nat.reduceEqDiff, Nat.reduceLeDiff, reduceCtorEq, ↓reduceIte, ares, aresult, pr, Int.reduceEq, Int.reduceLT, Int.reduceLE, Nat.reduceSub, Nat.reduceMul, aFieldAddr, aField, aLoad, aStore, aExtract, aBox, aint, rdVar, rdCells, Value.oneCell', splice, Int.reduceNeg, zvar1, chunks, depth, some_map, Nat.reduceBEq, cf_dyn, okU, Tryz.f57, rf57, hj, hj', hj1, hj2, aSliceS_at, le_succ', ex98 hj', ex98 hj, h1, h3, hw j hj']
      · simp only [R0, RC, zipEnv, Nat.reduceLT, Nat.reduceAdd, Nat.reduceEqDiff, Nat.reduceLeDiff, reduceCtorEq, ↓reduceIte, ares, aresult, pr, Int.reduceEq, Int.reduceLT, Int.reduceLE, Nat.reduceSub, Nat.reduceMul, aFieldAddr, aField, aLoad, aStore, aExtract, aBox, aint, rdVar, rdCells, Value.oneCell', splice, Int.reduceNeg, zvar1, chunks, depth, some_map, Nat.reduceBEq, cf_dyn, okU, Tryz.f57, rf57, hj, hj', hj1, hj2, aSliceS_at, le_succ', ex98 hj', ex98 hj, h1, hw j hj']) (fun j hj hq => by
      have hj' : j < aq.size := by omega
      have hj1 : j + 1 ≤ aq.size := by omega
      have hj2 : j + 1 ≤ bq.size := by omega
      obtain ⟨h1, h3⟩ := covF hq
      simp only [R0, RC, zipEnv, Nat.reduceLT, Nat.reduceAdd, Nat.reduceEqDiff, Nat.reduceLeDiff, reduceCtorEq, ↓reduceIte, ares, aresult, pr, Int.reduceEq, Int.reduceLT, Int.reduceLE, Nat.reduceSub, Nat.reduceMul, aFieldAddr, aField, aLoad, aStore, aExtract, aBox, aint, rdVar, rdCells, Value.oneCell', splice, Int.reduceNeg, zvar1, chunks, depth, some_map, Nat.reduceBEq, cf_dyn, okU, Tryz.f57, rf57, hj, hj', hj1, hj2, aSliceS_at, le_succ', ex98 hj', ex98 hj, h1, h3, hw j hj']) (by simp only [R0, RC, zipEnv, Nat.reduceLT, Nat.reduceAdd, Nat.reduceEqDiff, Nat.reduceLeDiff, reduceCtorEq, ↓reduceIte, ares, aresult, pr, Int.reduceEq, Int.reduceLT, Int.reduceLE, Nat.reduceSub, Nat.reduceMul, aFieldAddr, aField, aLoad, aStore, aExtract, aBox, aint, rdVar, rdCells, Value.oneCell', splice, Int.reduceNeg, zvar1, chunks, depth, some_map, Nat.reduceBEq, cf_dyn, okU, Tryz.f57, rf57]) with ⟨h, e⟩ | ⟨j, hj, hq, h, e⟩
  · rw [e, all_to (fun j hj => by simpa using h j hj)]
    simp only [R0, RC, zipEnv, Nat.reduceLT, Nat.reduceAdd, Nat.reduceEqDiff, Nat.reduceLeDiff, reduceCtorEq, ↓reduceIte, ares, aresult, pr, Int.reduceEq, Int.reduceLT, Int.reduceLE, Nat.reduceSub, Nat.reduceMul, aFieldAddr, aField, aLoad, aStore, aExtract, aBox, aint, rdVar, rdCells, Value.oneCell', splice, Int.reduceNeg, zvar1, chunks, depth, some_map, Nat.reduceBEq, cf_dyn, okU, Tryz.f57, rf57]
  · rw [e, all_not hj (by simpa using hq)]
    have hj' : j < aq.size := by omega
    have hj1 : j + 1 ≤ aq.size := by omega
    have hj2 : j + 1 ≤ bq.size := by omega
    obtain ⟨h1, h3⟩ := covF hq
    simp only [R0, RC, zipEnv, Nat.reduceLT, Nat.reduceAdd, Nat.reduceEqDiff, Nat.reduceLeDiff, reduceCtorEq, ↓reduceIte, ares, aresult, pr, Int.reduceEq, Int.reduceLT, Int.reduceLE, Nat.reduceSub, Nat.reduceMul, aFieldAddr, aField, aLoad, aStore, aExtract, aBox, aint, rdVar, rdCells, Value.oneCell', splice, Int.reduceNeg, zvar1, chunks, depth, some_map, Nat.reduceBEq, cf_dyn, okU, Tryz.f57, rf57, hj, hj', hj1, hj2, aSliceS_at, le_succ', ex98 hj', ex98 hj, h1, h3, hw j hj']
end Go.Proofs.YtpgipdajinkdgaaGreatA
