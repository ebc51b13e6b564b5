/- cmp.Less, slices.isNaN at strings (wanted by BinarySearch). -/
import Derived.Test.YtpgipdajinkdgaaGreatN3
import Derived.Sort.Walk0
namespace Go.Proofs.YtpgipdajinkdgaaGreatA
open Go Go.RowKit
set_option linter.all false
set_option linter.unusedSectionVars false
set_option linter.constructorNameAsVariable false
set_option linter.unusedVariables false
set_option linter.unusedSimpArgs false
theorem nanS (a : ByteArray) (k : Nat) (hk : 1 ≤ k) : val Tryz.prog cf k 126 [.sc (.string a)] = some (.sc (.bool false)) := by
  obtain ⟨k, rfl⟩ : ∃ j, k = j + 1 := ⟨k - 1, by omega⟩
  refine val_of (r := .sc (.bool false)) (H1 := []) ?_ rfl rfl
  rw [arun_body rfl rfl Tryz.func126 rfl (N := 6) rfl]
  simp only [R0, RC, zipEnv, Nat.reduceLT, Nat.reduceAdd, Nat.reduceEqDiff, Nat.reduceLeDiff, reduceCtorEq, ↓reduceIte, ares, aresult, pr, Int.reduceEq, Int.reduceLT, Int.reduceLE, Nat.reduceSub, Nat.reduceMul, aFieldAddr, aField, aLoad, aStore, aExtract, aBox, aint, rdVar, rdCells, Value.oneCell', splice, Int.reduceNeg, zvar1, chunks, depth, some_map, Nat.reduceBEq, cf_dyn, okU, Tryz.f126, rf126]
theorem snanS (a : ByteArray) (k : Nat) (hk : 1 ≤ k) : val Tryz.prog cf k 110 [.sc (.string a)] = some (.sc (.bool false)) := by
  obtain ⟨k, rfl⟩ : ∃ j, k = j + 1 := ⟨k - 1, by omega⟩
  refine val_of (r := .sc (.bool false)) (H1 := []) ?_ rfl rfl
  rw [arun_body rfl rfl Tryz.func110 rfl (N := 6) rfl]
  simp only [R0, RC, zipEnv, Nat.reduceLT, Nat.reduceAdd, Nat.reduceEqDiff, Nat.reduceLeDiff, reduceCtorEq, ↓reduceIte, ares, aresult, pr, Int.reduceEq, Int.reduceLT, Int.reduceLE, Nat.reduceSub, Nat.reduceMul, aFieldAddr, aField, aLoad, aStore, aExtract, aBox, aint, rdVar, rdCells, Value.oneCell', splice, Int.reduceNeg, zvar1, chunks, depth, some_map, Nat.reduceBEq, cf_dyn, okU, Tryz.f110, rf110]
theorem aBin_lssS {H : List Blk} {t : TypeId} {p q : Operand} {a b : ByteArray} (h : Tryz.prog.underlying t = some .string) : aBin Tryz.prog H .lss t p q (.sc (.string a)) (.sc (.string b)) = some (.val (.sc (.bool (Ord.ltS a b)))) := by
  have e : Op.bytesLess a.toList b.toList = Ord.ltS a b := by
    rw [Go.Proofs.bytesLess_eq, Lib.toList_data, Lib.toList_data]
    rfl
  unfold aBin
  rw [nilTest_flat' rfl rfl, ptrTest_flat' rfl]
  simp [toV, pOut, eqGuard, binOp, Op.stringOp, pureRun, ofV, pureRun_bind, pureRun_pure, e]
theorem less_run (a b : ByteArray) (k : Nat) (hk : 2 ≤ k) : val Tryz.prog cf k 109 [.sc (.string a), .sc (.string b)] = some (.sc (.bool (Ord.ltS a b))) := by
  obtain ⟨k, rfl⟩ : ∃ j, k = j + 1 := ⟨k - 1, by omega⟩
  refine val_of (r := .sc (.bool (Ord.ltS a b))) (H1 := []) ?_ rfl rfl
  rw [arun_body rfl rfl Tryz.func109 rfl (N := 17) rfl]
  simp only [R0, RC, zipEnv, Nat.reduceLT, Nat.reduceAdd, Nat.reduceEqDiff, Nat.reduceLeDiff, reduceCtorEq, ↓reduceIte, ares, aresult, pr, Int.reduceEq, Int.reduceLT, Int.reduceLE, Nat.reduceSub, Nat.reduceMul, aFieldAddr, aField, aLoad, aStore, aExtract, aBox, aint, rdVar, rdCells, Value.oneCell', splice, Int.reduceNeg, zvar1, chunks, depth, some_map, Nat.reduceBEq, cf_dyn, okU, Tryz.f109, rf109, nanS a k (by omega), nanS b k (by omega), aBin_lssS Tryz.underlying9]
theorem shr1 {k : IntKind} {a : Nat} : Op.shift .shr .u64 (a : Nat) k 1 = pure (.int .u64 ((a / 2 : Nat) : Int)) := by
  have e : Int.fdiv (a : Int) (2 ^ 1) = ((a / 2 : Nat) : Int) := by
    rw [Int.fdiv_eq_ediv_of_nonneg _ (by decide)]
    omega
  unfold Op.shift
  rw [if_neg (by decide)]
  show pure (Value.int .u64 (Int.fdiv (a : Int) (2 ^ 1))) = _
  rw [e]
theorem aBin_shr1 {H : List Blk} {t : TypeId} {p q : Operand} {k : IntKind} {a : Nat} : aBin Tryz.prog H .shr t p q (.sc (.int .u64 (a : Nat))) (.sc (.int k 1)) = some (.val (.sc (.int .u64 ((a / 2 : Nat) : Int)))) := by
  unfold aBin
  rw [nilTest_flat' rfl rfl, ptrTest_flat' rfl]
  have hg : pureRun Tryz.prog (eqGuard .shr t p q (.int .u64 (a : Nat)) (.int k 1)) = some () := rfl
  simp only [toV, Option.isSome_some, Bool.and_self, if_true, Option.getD_some, pOut, pureRun_bind, hg, Option.bind_some, binOp, shr1, pureRun_pure, ofV, Option.map_some]
end Go.Proofs.YtpgipdajinkdgaaGreatA

namespace Go.Proofs.YtpgipdajinkdgaaGreatA
open Go Go.RowKit
set_option linter.all false
set_option linter.unusedSectionVars false
set_option linter.constructorNameAsVariable false
set_option linter.unusedVariables false
set_option linter.unusedSimpArgs false
theorem wrap_small {a : Nat} (h : a < 9000000000000000000) : IntKind.u64.wrap (a : Int) = a ∧ IntKind.i64.wrap (a : Int) = a := by
  constructor
  · simp [IntKind.wrap, IntKind.bits, IntKind.signed]; omega
  · simp [IntKind.wrap, IntKind.bits, IntKind.signed]; omega
theorem search_run (l : List ByteArray) (t : ByteArray) (hn : l.length ≤ 1000000) (hs : ∀ i j (hi : i < l.length) (hj : j < l.length), i ≤ j → Ord.ltS l[j] t = true → Ord.ltS l[i] t = true) (k : Nat) (hk : 1000010 ≤ k) :
    ∃ p, p ≤ l.length ∧ (∀ i (hi : i < l.length), i < p → Ord.ltS l[i] t = true) ∧ (∀ i (hi : i < l.length), p ≤ i → Ord.ltS l[i] t = false) ∧
      val Tryz.prog cf k 77 [mkL 1 (sRows l), .sc (.string t)] = some (.tup [.sc (.int .i64 p), .sc (.bool (decide (l[p]? = some t)))]) := by
  obtain ⟨k, rfl⟩ : ∃ j, k = j + 1 := ⟨k - 1, by omega⟩
  have key : ∃ p, p ≤ l.length ∧ (∀ i (hi : i < l.length), i < p → Ord.ltS l[i] t = true) ∧ (∀ i (hi : i < l.length), p ≤ i → Ord.ltS l[i] t = false) ∧
      arun Tryz.prog cf (k + 1) 77 [mkL 1 (sRows l), .sc (.string t)] [] = some (.tup [.sc (.int .i64 p), .sc (.bool (decide (l[p]? = some t)))], []) := by
    rw [arun_body rfl rfl Tryz.func77 rfl (N := 54) rfl]
    simp only [R0, RC, zipEnv, Nat.reduceLT, Nat.reduceAdd, Nat.reduceEqDiff, Nat.reduceLeDiff, reduceCtorEq, ↓reduceIte, ares, aresult, pr, Int.reduceEq, Int.reduceLT, Int.reduceLE, Nat.reduceSub, Nat.reduceMul, aFieldAddr, aField, aLoad, aStore, aExtract, aBox, aint, rdVar, rdCells, Value.oneCell', splice, Int.reduceNeg, zvar1, chunks, depth, some_map, Nat.reduceBEq, cf_dyn, okU, Tryz.f77, rf77]
    generalize hA : aloop _ _ _ _ _ _ _ _ _ _ _ = A
    obtain ⟨r, s, hr, ⟨lo, hi, rfl, h1, h2, h3, h4, h5⟩, hR, e⟩ := aloop_last hA [0, 1, 6, 7, 8]
      (fun r s => ∃ lo hi : Nat, s = ⟨[(0, mkL 1 (sRows l)), (1, .sc (.string t)), (6, .sc (.int .i64 l.length)), (7, .sc (.int .i64 (lo : Nat))), (8, .sc (.int .i64 (hi : Nat)))], []⟩ ∧ lo ≤ hi ∧ hi ≤ l.length ∧ hi - lo ≤ l.length - r ∧ (∀ i (hi : i < l.length), i < lo → Ord.ltS l[i] t = true) ∧ (∀ i (hi' : i < l.length), hi ≤ i → Ord.ltS l[i] t = false))
      (fun r s => ∃ lo : Nat, s = ⟨[(0, mkL 1 (sRows l)), (1, .sc (.string t)), (6, .sc (.int .i64 l.length)), (7, .sc (.int .i64 (lo : Nat))), (8, .sc (.int .i64 (lo : Nat)))], []⟩)
      l.length (by omega) rfl ⟨0, l.length, by simp only [R0, RC, zipEnv, Nat.reduceLT, Nat.reduceAdd, Nat.reduceEqDiff, Nat.reduceLeDiff, reduceCtorEq, ↓reduceIte, ares, aresult, pr, Int.reduceEq, Int.reduceLT, Int.reduceLE, Nat.reduceSub, Nat.reduceMul, aFieldAddr, aField, aLoad, aStore, aExtract, aBox, aint, rdVar, rdCells, Value.oneCell', splice, Int.reduceNeg, zvar1, chunks, depth, some_map, Nat.reduceBEq, cf_dyn, okU, Tryz.f77, rf77]; rfl, by omega, by omega, by omega, fun i _ h => by omega, fun i _ h => by omega⟩
      (fun r hr s ⟨lo, hi, hs0, h1, h2, h3, h4, h5⟩ => by
        subst hs0
        by_cases hlt : lo < hi
        · left
          refine ⟨by omega, ?_⟩
          have w1 : IntKind.i64.wrap ((lo : Int) + (hi : Int)) = ((lo + hi : Nat) : Int) := by
            rw [show (lo : Int) + (hi : Int) = ((lo + hi : Nat) : Int) by omega]
            exact (wrap_small (by omega)).2
          have w2 := (wrap_small (a := lo + hi) (by omega)).1
          obtain ⟨m, hm⟩ : ∃ m, m = (lo + hi) / 2 := ⟨_, rfl⟩
          have w3 := (wrap_small (a := m) (by omega)).2
          have hml : m < l.length := by omega
          have hx : l[m]? = some l[m] := List.getElem?_eq_getElem hml
          have w4 : IntKind.i64.wrap ((m : Int) + 1) = ((m + 1 : Nat) : Int) := by
            rw [show (m : Int) + 1 = ((m + 1 : Nat) : Int) by omega]
            exact (wrap_small (by omega)).2
          have hc := less_run l[m] t k (by omega)
          cases hq : Ord.ltS l[m] t with
          | true =>
            rw [hq] at hc
            refine ⟨_, ?_, m + 1, hi, rfl, by omega, h2, by omega, fun i hi' hlt' => ?_, h5⟩
            · simp only [R0, RC, zipEnv, Nat.reduceLT, Nat.reduceAdd, Nat.reduceEqDiff, Nat.reduceLeDiff, reduceCtorEq, ↓reduceIte, ares, aresult, pr, Int.reduceEq, Int.reduceLT, Int.reduceLE, Nat.reduceSub, Nat.reduceMul, aFieldAddr, aField, aLoad, aStore, aExtract, aBox, aint, rdVar, rdCells, Value.oneCell', splice, Int.reduceNeg, zvar1, chunks, depth, some_map, Nat.reduceBEq, cf_dyn, okU, Tryz.f77, rf77, sC, hlt, w1, w2, ← hm, aBin_shr1, w3, hx, hc, w4]
            · exact hs i m hi' hml (by omega) hq
          | false =>
            rw [hq] at hc
            refine ⟨_, ?_, lo, m, rfl, by omega, by omega, by omega, h4, fun i hi' hle => ?_⟩
            · simp only [R0, RC, zipEnv, Nat.reduceLT, Nat.reduceAdd, Nat.reduceEqDiff, Nat.reduceLeDiff, reduceCtorEq, ↓reduceIte, ares, aresult, pr, Int.reduceEq, Int.reduceLT, Int.reduceLE, Nat.reduceSub, Nat.reduceMul, aFieldAddr, aField, aLoad, aStore, aExtract, aBox, aint, rdVar, rdCells, Value.oneCell', splice, Int.reduceNeg, zvar1, chunks, depth, some_map, Nat.reduceBEq, cf_dyn, okU, Tryz.f77, rf77, sC, hlt, w1, w2, ← hm, aBin_shr1, w3, hx, hc]
            · cases hq2 : Ord.ltS l[i] t with
              | false => rfl
              | true => rw [hs m i hml hi' hle hq2] at hq; cases hq
        · right
          obtain rfl : lo = hi := by omega
          exact ⟨⟨lo, rfl⟩, by simp only [R0, RC, zipEnv, Nat.reduceLT, Nat.reduceAdd, Nat.reduceEqDiff, Nat.reduceLeDiff, reduceCtorEq, ↓reduceIte, ares, aresult, pr, Int.reduceEq, Int.reduceLT, Int.reduceLE, Nat.reduceSub, Nat.reduceMul, aFieldAddr, aField, aLoad, aStore, aExtract, aBox, aint, rdVar, rdCells, Value.oneCell', splice, Int.reduceNeg, zvar1, chunks, depth, some_map, Nat.reduceBEq, cf_dyn, okU, Tryz.f77, rf77]⟩)
    obtain ⟨lo', hR⟩ := hR
    have hll : hi = lo := by simp at hR; omega
    subst hll
    refine ⟨hi, h2, h4, h5, ?_⟩
    rw [e]
    by_cases hlt : hi < l.length
    · have hx : l[hi]? = some l[hi] := List.getElem?_eq_getElem hlt
      by_cases hq : l[hi] = t
      · simp only [R0, RC, zipEnv, Nat.reduceLT, Nat.reduceAdd, Nat.reduceEqDiff, Nat.reduceLeDiff, reduceCtorEq, ↓reduceIte, ares, aresult, pr, Int.reduceEq, Int.reduceLT, Int.reduceLE, Nat.reduceSub, Nat.reduceMul, aFieldAddr, aField, aLoad, aStore, aExtract, aBox, aint, rdVar, rdCells, Value.oneCell', splice, Int.reduceNeg, zvar1, chunks, depth, some_map, Nat.reduceBEq, cf_dyn, okU, Tryz.f77, rf77, sC, hlt, hx, hq]
      · simp only [R0, RC, zipEnv, Nat.reduceLT, Nat.reduceAdd, Nat.reduceEqDiff, Nat.reduceLeDiff, reduceCtorEq, ↓reduceIte, ares, aresult, pr, Int.reduceEq, Int.reduceLT, Int.reduceLE, Nat.reduceSub, Nat.reduceMul, aFieldAddr, aField, aLoad, aStore, aExtract, aBox, aint, rdVar, rdCells, Value.oneCell', splice, Int.reduceNeg, zvar1, chunks, depth, some_map, Nat.reduceBEq, cf_dyn, okU, Tryz.f77, rf77, sC, hlt, hx, hq, snanS l[hi] k (by omega), Option.some.injEq]
    · have hx : l[hi]? = none := List.getElem?_eq_none (by omega)
      simp only [R0, RC, zipEnv, Nat.reduceLT, Nat.reduceAdd, Nat.reduceEqDiff, Nat.reduceLeDiff, reduceCtorEq, ↓reduceIte, ares, aresult, pr, Int.reduceEq, Int.reduceLT, Int.reduceLE, Nat.reduceSub, Nat.reduceMul, aFieldAddr, aField, aLoad, aStore, aExtract, aBox, aint, rdVar, rdCells, Value.oneCell', splice, Int.reduceNeg, zvar1, chunks, depth, some_map, Nat.reduceBEq, cf_dyn, okU, Tryz.f77, rf77, sC, hlt, hx]
  obtain ⟨p, h1, h2, h3, e⟩ := key
  exact ⟨p, h1, h2, h3, val_of e rfl rfl⟩
end Go.Proofs.YtpgipdajinkdgaaGreatA
