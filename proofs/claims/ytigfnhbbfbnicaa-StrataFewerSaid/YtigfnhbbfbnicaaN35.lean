/- A part of the proof of StrataFewer: functions of the program, run by the evaluator. -/

/- strata.Strata: its closures. -/
import Derived.Test.YtigfnhbbfbnicaaN34
import Derived.Test.YtigfnhbbfbnicaaN15
namespace Go.Proofs.YtigfnhbbfbnicaaA
open Go Go.RowKit
set_option linter.all false
set_option linter.unusedSectionVars false
set_option linter.constructorNameAsVariable false
set_option linter.unusedVariables false
set_option linter.unusedSimpArgs false
theorem idxLit_gen {g : FuncId} (ls : List LitT) (q : LitT → Bool) (hl : ls.length ≤ 1000) (k : Nat) (hk : 1005 ≤ k)
    (hc : ∀ l ∈ ls, ∀ strict, callR Try.prog (acall cf.mode strict (arun Try.prog cf (k - 1))) [] (.fn g []) [.agg l.c] = some (.sc (.bool (q l)), [])) :
    val Try.prog cf k 56 [mkL 17 (ls.map LitT.c), .fn g []] = some (.sc (.int .i64 (idxOf ls q))) := by
  obtain ⟨k, rfl⟩ : ∃ j, k = j + 1 := ⟨k - 1, by omega⟩
  rw [Nat.add_sub_cancel] at hc
  refine val_of (r := .sc (.int .i64 (idxOf ls q))) (H1 := []) ?_ rfl rfl
  rw [arun_body rfl rfl Try.func56 rfl (N := 19) rfl]
  have hw := wraps (n := ls.length) (by omega)
  simp only [LitT.c] at hc
  simp only [R0, RC, zipEnv, Nat.reduceLT, Nat.reduceAdd, Nat.reduceEqDiff, Nat.reduceLeDiff, reduceCtorEq, ↓reduceIte, ares, aresult, pr, Int.reduceEq, Int.reduceLT, Int.reduceLE, Nat.reduceSub, Nat.reduceMul, aFieldAddr, aField, aLoad, aStore, aExtract, aBox, aint, rdVar, rdCells, Value.oneCell', splice, Int.reduceNeg, zvar1, chunks, depth, some_map, Nat.reduceBEq, cf_dyn, okU, Try.f56, rf56]
  generalize hA : aloop _ _ _ _ _ _ _ _ _ _ _ = A
  rcases aloop_list hA [0, 1, 7, 8] (fun j => ⟨[(0, mkL 17 (ls.map LitT.c)), (1, .fn g []), (7, .sc (.int .i64 ls.length)), (8, .sc (.int .i64 (j : Nat)))], []⟩) ls q (by omega) rfl rfl (fun j x hj hx hq => by
      simp only [R0, RC, zipEnv, Nat.reduceLT, Nat.reduceAdd, Nat.reduceEqDiff, Nat.reduceLeDiff, reduceCtorEq, ↓reduceIte, ares, aresult, pr, Int.reduceEq, Int.reduceLT, Int.reduceLE, Nat.reduceSub, Nat.reduceMul, aFieldAddr, aField, aLoad, aStore, aExtract, aBox, aint, rdVar, rdCells, Value.oneCell', splice, Int.reduceNeg, zvar1, chunks, depth, some_map, Nat.reduceBEq, cf_dyn, okU, Try.f56, rf56, LitT.c, hj, hx, hw j hj, hc x (List.mem_of_getElem? hx), hq]) (fun j x hj hx hq => by
      simp only [R0, RC, zipEnv, Nat.reduceLT, Nat.reduceAdd, Nat.reduceEqDiff, Nat.reduceLeDiff, reduceCtorEq, ↓reduceIte, ares, aresult, pr, Int.reduceEq, Int.reduceLT, Int.reduceLE, Nat.reduceSub, Nat.reduceMul, aFieldAddr, aField, aLoad, aStore, aExtract, aBox, aint, rdVar, rdCells, Value.oneCell', splice, Int.reduceNeg, zvar1, chunks, depth, some_map, Nat.reduceBEq, cf_dyn, okU, Try.f56, rf56, LitT.c, hj, hx, hw j hj, hc x (List.mem_of_getElem? hx), hq]) (by simp only [R0, RC, zipEnv, Nat.reduceLT, Nat.reduceAdd, Nat.reduceEqDiff, Nat.reduceLeDiff, reduceCtorEq, ↓reduceIte, ares, aresult, pr, Int.reduceEq, Int.reduceLT, Int.reduceLE, Nat.reduceSub, Nat.reduceMul, aFieldAddr, aField, aLoad, aStore, aExtract, aBox, aint, rdVar, rdCells, Value.oneCell', splice, Int.reduceNeg, zvar1, chunks, depth, some_map, Nat.reduceBEq, cf_dyn, okU, Try.f56, rf56]) with ⟨h, e⟩ | ⟨j, x, hj, hx, hq, h, e⟩
  · rw [e, idxOf_none h]
    simp only [R0, RC, zipEnv, Nat.reduceLT, Nat.reduceAdd, Nat.reduceEqDiff, Nat.reduceLeDiff, reduceCtorEq, ↓reduceIte, ares, aresult, pr, Int.reduceEq, Int.reduceLT, Int.reduceLE, Nat.reduceSub, Nat.reduceMul, aFieldAddr, aField, aLoad, aStore, aExtract, aBox, aint, rdVar, rdCells, Value.oneCell', splice, Int.reduceNeg, zvar1, chunks, depth, some_map, Nat.reduceBEq, cf_dyn, okU, Try.f56, rf56]
  · rw [e, idxOf_some h]
    simp only [R0, RC, zipEnv, Nat.reduceLT, Nat.reduceAdd, Nat.reduceEqDiff, Nat.reduceLeDiff, reduceCtorEq, ↓reduceIte, ares, aresult, pr, Int.reduceEq, Int.reduceLT, Int.reduceLE, Nat.reduceSub, Nat.reduceMul, aFieldAddr, aField, aLoad, aStore, aExtract, aBox, aint, rdVar, rdCells, Value.oneCell', splice, Int.reduceNeg, zvar1, chunks, depth, some_map, Nat.reduceBEq, cf_dyn, okU, Try.f56, rf56, LitT.c, hj, hx, hw j hj, hc x (List.mem_of_getElem? hx), hq]
theorem conLit_gen {g : FuncId} (ls : List LitT) (q : LitT → Bool) (hl : ls.length ≤ 1000) (k : Nat) (hk : 1006 ≤ k)
    (hc : ∀ l ∈ ls, ∀ strict, callR Try.prog (acall cf.mode strict (arun Try.prog cf (k - 2))) [] (.fn g []) [.agg l.c] = some (.sc (.bool (q l)), [])) :
    val Try.prog cf k 24 [mkL 17 (ls.map LitT.c), .fn g []] = some (.sc (.bool (ls.any q))) := by
  obtain ⟨k, rfl⟩ : ∃ j, k = j + 1 := ⟨k - 1, by omega⟩
  refine val_of (r := .sc (.bool (ls.any q))) (H1 := []) ?_ rfl rfl
  rw [arun_body rfl rfl Try.func24 rfl (N := 9) rfl]
  have h := idxLit_gen ls q hl k (by omega) hc
  simp only [R0, RC, zipEnv, Nat.reduceLT, Nat.reduceAdd, Nat.reduceEqDiff, Nat.reduceLeDiff, reduceCtorEq, ↓reduceIte, ares, aresult, pr, Int.reduceEq, Int.reduceLT, Int.reduceLE, Nat.reduceSub, Nat.reduceMul, aFieldAddr, aField, aLoad, aStore, aExtract, aBox, aint, rdVar, rdCells, Value.oneCell', splice, Int.reduceNeg, zvar1, chunks, depth, some_map, Nat.reduceBEq, cf_dyn, okU, Try.f24, rf24, h, idx_any]
def isLet (l : LitT) : Bool := decide (l.k = 4)
theorem isLet_run (l : LitT) (k : Nat) (hk : 1 ≤ k) : val Try.prog cf k 25 [.agg l.c] = some (.sc (.bool (isLet l))) := by
  obtain ⟨k, rfl⟩ : ∃ j, k = j + 1 := ⟨k - 1, by omega⟩
  refine val_of (r := .sc (.bool (isLet l))) (H1 := []) ?_ rfl rfl
  rw [arun_body rfl rfl Try.func25 rfl (N := 6) rfl]
  unfold isLet
  simp only [R0, RC, zipEnv, Nat.reduceLT, Nat.reduceAdd, Nat.reduceEqDiff, Nat.reduceLeDiff, reduceCtorEq, ↓reduceIte, ares, aresult, pr, Int.reduceEq, Int.reduceLT, Int.reduceLE, Nat.reduceSub, Nat.reduceMul, aFieldAddr, aField, aLoad, aStore, aExtract, aBox, aint, rdVar, rdCells, Value.oneCell', splice, Int.reduceNeg, zvar1, chunks, depth, some_map, Nat.reduceBEq, cf_dyn, okU, Try.f25, rf25, LitT.c]
theorem hasLet_run (ls : List LitT) (hl : ls.length ≤ 1000) (k : Nat) (hk : 1006 ≤ k) : val Try.prog cf k 24 [mkL 17 (ls.map LitT.c), .fn 25 []] = some (.sc (.bool (ls.any isLet))) := by
  refine conLit_gen ls isLet hl k hk (fun l _ strict => ?_)
  have h := isLet_run l (k - 2) (by omega)
  have hr : amap (rb [] depth) ([.agg l.c] ++ []) = some [.agg l.c] := by
    simp only [List.append_nil, LitT.c]
    simp only [R0, RC, zipEnv, Nat.reduceLT, Nat.reduceAdd, Nat.reduceEqDiff, Nat.reduceLeDiff, reduceCtorEq, ↓reduceIte, ares, aresult, pr, Int.reduceEq, Int.reduceLT, Int.reduceLE, Nat.reduceSub, Nat.reduceMul, aFieldAddr, aField, aLoad, aStore, aExtract, aBox, aint, rdVar, rdCells, Value.oneCell', splice, Int.reduceNeg, zvar1, chunks, depth, some_map, Nat.reduceBEq, cf_dyn, okU, Try.f25, rf25]
  rw [cl25, hr]
  simp only [Option.bind_some, h, Option.map_some]
def StH (md : SM) (b c : Bool) : List Blk := [⟨0, 0, 0, false, [], .map (encM md)⟩, ⟨64, 1, 0, false, [.mp 0 0], .cells⟩, ⟨4, 1, 0, false, [.sc (.bool b)], .cells⟩, ⟨4, 1, 0, false, [.sc (.bool c)], .cells⟩]
def badS (md : SM) (r : RuleT) (q : LitT × ByteArray) : Bool := decide (lookM md q.2 = lookM md r.head.p) && (decide (q.1.k = 2) || decide (0 < r.fold))
def cycS (md : SM) (r : RuleT) (q : LitT × ByteArray) : Bool := decide (lookM md q.2 = lookM md r.head.p) && r.body.any isLet
theorem clo_strata (md : SM) (b c : Bool) (r : RuleT) (l : LitT) (s : ByteArray) (k : Nat) :
    arun Try.prog cf (k + 1) 27 [.agg l.c, .sc (.string s), .ptr 1 0 0, .ro r.c, .ptr 2 0 0, .ptr 3 0 0, .ro [.sc (.bool (r.body.any isLet))]] (StH md b c) = some (.tup [], StH md (b || badS md r (l, s)) (c || cycS md r (l, s))) := by
  have l1 : ∀ t, aLook Try.prog (StH md b c) 64 (.mp 0 0) (.sc (.string t)) false = some (.val (.sc (.int .i64 (lookM md t)))) := fun t => look_sI (mapOf_mp rfl)
  have m1 : (StH md b c)[1]? = some ⟨64, 1, 0, false, [.mp 0 0], .cells⟩ := rfl
  have m2 : (StH md b c)[2]? = some ⟨4, 1, 0, false, [.sc (.bool b)], .cells⟩ := rfl
  have m3 : ∀ b', (StH md b' c)[3]? = some ⟨4, 1, 0, false, [.sc (.bool c)], .cells⟩ := fun _ => rfl
  have s2 : ∀ x, (StH md b c).set 2 ⟨4, 1, 0, false, [.sc (.bool x)], .cells⟩ = StH md x c := fun _ => rfl
  have s3 : ∀ b' x, (StH md b' c).set 3 ⟨4, 1, 0, false, [.sc (.bool x)], .cells⟩ = StH md b' x := fun _ _ => rfl
  unfold badS cycS
  rw [arun_body rfl rfl Try.func27 rfl (N := 33) rfl]
  simp only [LitT.c, RuleT.c]
  generalize r.body.any isLet = le at *
  by_cases e : lookM md s = lookM md r.head.p
  · cases b <;> cases c <;> by_cases e2 : l.k = 2 <;> simp only [R0, RC, zipEnv, Nat.reduceLT, Nat.reduceAdd, Nat.reduceEqDiff, Nat.reduceLeDiff, reduceCtorEq, ↓reduceIte, ares, aresult, pr, Int.reduceEq, Int.reduceLT, Int.reduceLE, Nat.reduceSub, Nat.reduceMul, aFieldAddr, aField, aLoad, aStore, aExtract, aBox, aint, rdVar, rdCells, Value.oneCell', splice, Int.reduceNeg, zvar1, chunks, depth, some_map, Nat.reduceBEq, cf_dyn, okU, Try.f27, rf27, LitT.c, RuleT.c, aop_lookup, m1, m2, m3, s2, s3, l1, e, e2]
  · simp only [R0, RC, zipEnv, Nat.reduceLT, Nat.reduceAdd, Nat.reduceEqDiff, Nat.reduceLeDiff, reduceCtorEq, ↓reduceIte, ares, aresult, pr, Int.reduceEq, Int.reduceLT, Int.reduceLE, Nat.reduceSub, Nat.reduceMul, aFieldAddr, aField, aLoad, aStore, aExtract, aBox, aint, rdVar, rdCells, Value.oneCell', splice, Int.reduceNeg, zvar1, chunks, depth, some_map, Nat.reduceBEq, cf_dyn, okU, Try.f27, rf27, LitT.c, RuleT.c, aop_lookup, m1, m2, m3, s2, s3, l1, e]
end Go.Proofs.YtigfnhbbfbnicaaA
