/- A part of the proof of MagicAsks: functions of the program, run by the evaluator. -/

/- The function that compares two pairs; the library's sorting as it stands in this program. -/
import Derived.Test.YtpgipdajinkdgaaGreatB
import Derived.Test.YtpgipdajinkdgaaGreatLays1
import Derived.Shelf.SortM.Plain
import Derived.Shelf.SortM.SortNone
import Derived.Shelf.SlicesG.CompactS
namespace Go.Proofs.YtpgipdajinkdgaaGreatA
open Go Go.RowKit
set_option linter.all false
set_option linter.unusedSectionVars false
set_option linter.constructorNameAsVariable false
set_option linter.unusedVariables false
set_option linter.unusedSimpArgs false
theorem nan0 (a : Int) (k : Nat) (hk : 1 ≤ k) : val Tryz.prog cf0 k 137 [.sc (.int .i64 a)] = some (.sc (.bool false)) := by
  obtain ⟨k, rfl⟩ : ∃ j, k = j + 1 := ⟨k - 1, by omega⟩
  refine val_of (r := .sc (.bool false)) (H1 := []) ?_ rfl rfl
  rw [arun_body rfl rfl Tryz.func137 rfl (N := 6) rfl]
  simp only [R0, RC, zipEnv, Nat.reduceLT, Nat.reduceAdd, Nat.reduceEqDiff, Nat.reduceLeDiff, reduceCtorEq, ↓reduceIte, ares, aresult, pr, Int.reduceEq, Int.reduceLT, Int.reduceLE, Nat.reduceSub, Nat.reduceMul, aFieldAddr, aField, aLoad, aStore, aExtract, aBox, aint, rdVar, rdCells, Value.oneCell', splice, Int.reduceNeg, zvar1, chunks, depth, some_map, Nat.reduceBEq, cf_dyn, okU, Tryz.f137, rg137]
theorem ccmp0 (a b : Int) (k : Nat) (hk : 3 ≤ k) : val Tryz.prog cf0 k 113 [.sc (.int .i64 a), .sc (.int .i64 b)] = some (.sc (.int .i64 (cmpJ a b))) := by
  obtain ⟨k, rfl⟩ : ∃ j, k = j + 1 := ⟨k - 1, by omega⟩
  refine val_of (r := .sc (.int .i64 (cmpJ a b))) (H1 := []) ?_ rfl rfl
  rw [arun_body rfl rfl Tryz.func113 rfl (N := 20) rfl]
  unfold cmpJ
  by_cases h1 : a < b
  · simp only [R0, RC, zipEnv, Nat.reduceLT, Nat.reduceAdd, Nat.reduceEqDiff, Nat.reduceLeDiff, reduceCtorEq, ↓reduceIte, ares, aresult, pr, Int.reduceEq, Int.reduceLT, Int.reduceLE, Nat.reduceSub, Nat.reduceMul, aFieldAddr, aField, aLoad, aStore, aExtract, aBox, aint, rdVar, rdCells, Value.oneCell', splice, Int.reduceNeg, zvar1, chunks, depth, some_map, Nat.reduceBEq, cf_dyn, okU, Tryz.f113, rg113, nan0 a k (by omega), nan0 b k (by omega), h1]
  · by_cases h2 : b < a
    · simp only [R0, RC, zipEnv, Nat.reduceLT, Nat.reduceAdd, Nat.reduceEqDiff, Nat.reduceLeDiff, reduceCtorEq, ↓reduceIte, ares, aresult, pr, Int.reduceEq, Int.reduceLT, Int.reduceLE, Nat.reduceSub, Nat.reduceMul, aFieldAddr, aField, aLoad, aStore, aExtract, aBox, aint, rdVar, rdCells, Value.oneCell', splice, Int.reduceNeg, zvar1, chunks, depth, some_map, Nat.reduceBEq, cf_dyn, okU, Tryz.f113, rg113, nan0 a k (by omega), nan0 b k (by omega), h1, h2]
    · simp only [R0, RC, zipEnv, Nat.reduceLT, Nat.reduceAdd, Nat.reduceEqDiff, Nat.reduceLeDiff, reduceCtorEq, ↓reduceIte, ares, aresult, pr, Int.reduceEq, Int.reduceLT, Int.reduceLE, Nat.reduceSub, Nat.reduceMul, aFieldAddr, aField, aLoad, aStore, aExtract, aBox, aint, rdVar, rdCells, Value.oneCell', splice, Int.reduceNeg, zvar1, chunks, depth, some_map, Nat.reduceBEq, cf_dyn, okU, Tryz.f113, rg113, nan0 a k (by omega), nan0 b k (by omega), h1, h2]
def firstNZ (l : List I2) : Int := match l.findIdx? (fun p => decide (cmpJ p.1 p.2 ≠ 0)) with
  | some i => ((l[i]?).map fun p => cmpJ p.1 p.2).getD 0
  | none => 0
theorem compare0 (l : List I2) (hl : l.length ≤ 1000) (k : Nat) (hk : 1005 ≤ k) : val Tryz.prog cf0 k 81 [mkL 1 (l.map fun p => [.sc (.int .i64 p.1)]), mkL 1 (l.map fun p => [.sc (.int .i64 p.2)])] = some (.sc (.int .i64 (firstNZ l))) := by
  obtain ⟨k, rfl⟩ : ∃ j, k = j + 1 := ⟨k - 1, by omega⟩
  refine val_of (r := .sc (.int .i64 (firstNZ l))) (H1 := []) ?_ rfl rfl
  rw [arun_body rfl rfl Tryz.func81 rfl (N := 36) rfl]
  have hw := wraps (n := l.length) (by omega)
  simp only [R0, RC, zipEnv, Nat.reduceLT, Nat.reduceAdd, Nat.reduceEqDiff, Nat.reduceLeDiff, reduceCtorEq, ↓reduceIte, ares, aresult, pr, Int.reduceEq, Int.reduceLT, Int.reduceLE, Nat.reduceSub, Nat.reduceMul, aFieldAddr, aField, aLoad, aStore, aExtract, aBox, aint, rdVar, rdCells, Value.oneCell', splice, Int.reduceNeg, zvar1, chunks, depth, some_map, Nat.reduceBEq, cf_dyn, okU, Tryz.f81, rg81]
  generalize hA : aloop _ _ _ _ _ _ _ _ _ _ _ = A
  rcases aloop_list hA [0, 1, 9, 10, 11] (fun j => ⟨[(0, mkL 1 (l.map fun p => [.sc (.int .i64 p.1)])), (1, mkL 1 (l.map fun p => [.sc (.int .i64 p.2)])), (9, mkL 1 (l.map fun p => [.sc (.int .i64 p.1)])), (10, .sc (.int .i64 l.length)), (11, .sc (.int .i64 (j : Nat)))], []⟩) l (fun p => decide (cmpJ p.1 p.2 ≠ 0)) (by omega) rfl rfl (fun j x hj hx hq => by
      have hn : ¬ ((l.length : Int) ≤ j) := by omega
      have hq' : cmpJ x.1 x.2 = 0 := by simpa using hq
      simp only [R0, RC, zipEnv, Nat.reduceLT, Nat.reduceAdd, Nat.reduceEqDiff, Nat.reduceLeDiff, reduceCtorEq, ↓reduceIte, ares, aresult, pr, Int.reduceEq, Int.reduceLT, Int.reduceLE, Nat.reduceSub, Nat.reduceMul, aFieldAddr, aField, aLoad, aStore, aExtract, aBox, aint, rdVar, rdCells, Value.oneCell', splice, Int.reduceNeg, zvar1, chunks, depth, some_map, Nat.reduceBEq, cf_dyn, okU, Tryz.f81, rg81, hj, hx, hw j hj, hn, ccmp0 x.1 x.2 k (by omega), hq']) (fun j x hj hx hq => by
      have hn : ¬ ((l.length : Int) ≤ j) := by omega
      have hq' : cmpJ x.1 x.2 ≠ 0 := by simpa using hq
      simp only [R0, RC, zipEnv, Nat.reduceLT, Nat.reduceAdd, Nat.reduceEqDiff, Nat.reduceLeDiff, reduceCtorEq, ↓reduceIte, ares, aresult, pr, Int.reduceEq, Int.reduceLT, Int.reduceLE, Nat.reduceSub, Nat.reduceMul, aFieldAddr, aField, aLoad, aStore, aExtract, aBox, aint, rdVar, rdCells, Value.oneCell', splice, Int.reduceNeg, zvar1, chunks, depth, some_map, Nat.reduceBEq, cf_dyn, okU, Tryz.f81, rg81, hj, hx, hw j hj, hn, ccmp0 x.1 x.2 k (by omega), hq']) (by simp only [R0, RC, zipEnv, Nat.reduceLT, Nat.reduceAdd, Nat.reduceEqDiff, Nat.reduceLeDiff, reduceCtorEq, ↓reduceIte, ares, aresult, pr, Int.reduceEq, Int.reduceLT, Int.reduceLE, Nat.reduceSub, Nat.reduceMul, aFieldAddr, aField, aLoad, aStore, aExtract, aBox, aint, rdVar, rdCells, Value.oneCell', splice, Int.reduceNeg, zvar1, chunks, depth, some_map, Nat.reduceBEq, cf_dyn, okU, Tryz.f81, rg81]) with ⟨h, e⟩ | ⟨j, x, hj, hx, hq, h, e⟩
  · rw [e]
    simp only [firstNZ, h]
    simp only [R0, RC, zipEnv, Nat.reduceLT, Nat.reduceAdd, Nat.reduceEqDiff, Nat.reduceLeDiff, reduceCtorEq, ↓reduceIte, ares, aresult, pr, Int.reduceEq, Int.reduceLT, Int.reduceLE, Nat.reduceSub, Nat.reduceMul, aFieldAddr, aField, aLoad, aStore, aExtract, aBox, aint, rdVar, rdCells, Value.oneCell', splice, Int.reduceNeg, zvar1, chunks, depth, some_map, Nat.reduceBEq, cf_dyn, okU, Tryz.f81, rg81]
  · rw [e]
    simp only [firstNZ, h, hx, Option.map_some, Option.getD_some]
    have hn : ¬ ((l.length : Int) ≤ j) := by omega
    have hq' : cmpJ x.1 x.2 ≠ 0 := by simpa using hq
    simp only [R0, RC, zipEnv, Nat.reduceLT, Nat.reduceAdd, Nat.reduceEqDiff, Nat.reduceLeDiff, reduceCtorEq, ↓reduceIte, ares, aresult, pr, Int.reduceEq, Int.reduceLT, Int.reduceLE, Nat.reduceSub, Nat.reduceMul, aFieldAddr, aField, aLoad, aStore, aExtract, aBox, aint, rdVar, rdCells, Value.oneCell', splice, Int.reduceNeg, zvar1, chunks, depth, some_map, Nat.reduceBEq, cf_dyn, okU, Tryz.f81, rg81, hj, hx, hw j hj, hn, ccmp0 x.1 x.2 k (by omega), hq']
theorem firstNZ_pair (x y : I2) : firstNZ [(x.1, y.1), (x.2, y.2)] = cmpP2 x y := by
  unfold firstNZ cmpP2
  by_cases h1 : cmpJ x.1 y.1 = 0
  · by_cases h2 : cmpJ x.2 y.2 = 0
    · simp [List.findIdx?_cons, h1, h2]
    · simp [List.findIdx?_cons, h1, h2]
  · simp [List.findIdx?_cons, h1]
theorem rb_ownC {H : List Blk} {k b o len sz ver : Nat} : rb H (k + 1) (.own b o len sz ver) = match blkR H b ver with
      | some blk => match rdCells blk.cells (o * sz) (len * sz) with
        | some cs => (amap (rb H k) cs).map fun l => mkL sz (chunks sz len l)
        | none => none
      | none => none := rfl
theorem clo_cmp (x y : I2) (k : Nat) (hk : 1005 ≤ k) : ∃ H', arun Tryz.prog cf0 (k + 1) 80 [.agg (pC x), .agg (pC y)] [] = some (.sc (.int .i64 (cmpP2 x y)), H') := by
  have h := compare0 [(x.1, y.1), (x.2, y.2)] (by simp) k (by omega)
  rw [firstNZ_pair] at h
  simp only [List.map_cons, List.map_nil] at h
  exact ⟨_, by
    rw [arun_body rfl rfl Tryz.func80 rfl (N := 8) rfl]
    simp only [R0, RC, zipEnv, Nat.reduceLT, Nat.reduceAdd, Nat.reduceEqDiff, Nat.reduceLeDiff, reduceCtorEq, ↓reduceIte, ares, aresult, pr, Int.reduceEq, Int.reduceLT, Int.reduceLE, Nat.reduceSub, Nat.reduceMul, aFieldAddr, aField, aLoad, aStore, aExtract, aBox, aint, rdVar, rdCells, Value.oneCell', splice, Int.reduceNeg, zvar1, chunks, depth, some_map, Nat.reduceBEq, cf_dyn, okU, Tryz.f80, rg80, pC, rb_ownC, blkR_eq, h, Nat.zero_div, Nat.zero_mod]
    rfl⟩
end Go.Proofs.YtpgipdajinkdgaaGreatA
