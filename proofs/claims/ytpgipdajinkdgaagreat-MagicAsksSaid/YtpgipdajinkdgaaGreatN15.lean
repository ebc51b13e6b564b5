/- A part of the proof of MagicAsks: functions of the program, run by the evaluator. -/

/- adorn.closed, adorn.Open. -/
import Derived.Test.YtpgipdajinkdgaaGreatN14
import Derived.Test.YtpgipdajinkdgaaGreatC
namespace Go.Proofs.YtpgipdajinkdgaaGreatA
open Go Go.RowKit
set_option linter.all false
set_option linter.unusedSectionVars false
set_option linter.constructorNameAsVariable false
set_option linter.unusedVariables false
set_option linter.unusedSimpArgs false
def cl1 (l : LitT) : Bool := decide (l.k = 2) || decide (l.k = 5)
theorem closed1_run (l : LitT) (k : Nat) (hk : 1 ≤ k) : val Tryz.prog cf k 84 [.agg l.c] = some (.sc (.bool (cl1 l))) := by
  obtain ⟨k, rfl⟩ : ∃ j, k = j + 1 := ⟨k - 1, by omega⟩
  refine val_of (r := .sc (.bool (cl1 l))) (H1 := []) ?_ rfl rfl
  rw [arun_body rfl rfl Tryz.func84 rfl (N := 11) rfl]
  unfold cl1
  by_cases h2 : l.k = 2
  · simp only [R0, RC, zipEnv, Nat.reduceLT, Nat.reduceAdd, Nat.reduceEqDiff, Nat.reduceLeDiff, reduceCtorEq, ↓reduceIte, ares, aresult, pr, Int.reduceEq, Int.reduceLT, Int.reduceLE, Nat.reduceSub, Nat.reduceMul, aFieldAddr, aField, aLoad, aStore, aExtract, aBox, aint, rdVar, rdCells, Value.oneCell', splice, Int.reduceNeg, zvar1, chunks, depth, some_map, Nat.reduceBEq, cf_dyn, okU, Tryz.f84, rf84, LitT.c, h2]
  · simp only [R0, RC, zipEnv, Nat.reduceLT, Nat.reduceAdd, Nat.reduceEqDiff, Nat.reduceLeDiff, reduceCtorEq, ↓reduceIte, ares, aresult, pr, Int.reduceEq, Int.reduceLT, Int.reduceLE, Nat.reduceSub, Nat.reduceMul, aFieldAddr, aField, aLoad, aStore, aExtract, aBox, aint, rdVar, rdCells, Value.oneCell', splice, Int.reduceNeg, zvar1, chunks, depth, some_map, Nat.reduceBEq, cf_dyn, okU, Tryz.f84, rf84, LitT.c, h2]
theorem indexLit_run (ls : List LitT) (hl : ls.length ≤ 1000) (k : Nat) (hk : 1005 ≤ k) : val Tryz.prog cf k 114 [mkL 17 (ls.map LitT.c), .fn 84 []] = some (.sc (.int .i64 (idxOf ls cl1))) := by
  obtain ⟨k, rfl⟩ : ∃ j, k = j + 1 := ⟨k - 1, by omega⟩
  refine val_of (r := .sc (.int .i64 (idxOf ls cl1))) (H1 := []) ?_ rfl rfl
  rw [arun_body rfl rfl Tryz.func114 rfl (N := 19) rfl]
  have hw := wraps (n := ls.length) (by omega)
  have hc := fun l : LitT => closed1_run l k (by omega)
  simp only [LitT.c] at hc
  simp only [R0, RC, zipEnv, Nat.reduceLT, Nat.reduceAdd, Nat.reduceEqDiff, Nat.reduceLeDiff, reduceCtorEq, ↓reduceIte, ares, aresult, pr, Int.reduceEq, Int.reduceLT, Int.reduceLE, Nat.reduceSub, Nat.reduceMul, aFieldAddr, aField, aLoad, aStore, aExtract, aBox, aint, rdVar, rdCells, Value.oneCell', splice, Int.reduceNeg, zvar1, chunks, depth, some_map, Nat.reduceBEq, cf_dyn, okU, Tryz.f114, rf114]
  generalize hA : aloop _ _ _ _ _ _ _ _ _ _ _ = A
  rcases aloop_list hA [0, 1, 7, 8] (fun j => ⟨[(0, mkL 17 (ls.map LitT.c)), (1, .fn 84 []), (7, .sc (.int .i64 ls.length)), (8, .sc (.int .i64 (j : Nat)))], []⟩) ls cl1 (by omega) rfl rfl (fun j x hj hx hq => by
      simp only [R0, RC, zipEnv, Nat.reduceLT, Nat.reduceAdd, Nat.reduceEqDiff, Nat.reduceLeDiff, reduceCtorEq, ↓reduceIte, ares, aresult, pr, Int.reduceEq, Int.reduceLT, Int.reduceLE, Nat.reduceSub, Nat.reduceMul, aFieldAddr, aField, aLoad, aStore, aExtract, aBox, aint, rdVar, rdCells, Value.oneCell', splice, Int.reduceNeg, zvar1, chunks, depth, some_map, Nat.reduceBEq, cf_dyn, okU, Tryz.f114, rf114, cl84, LitT.c, hj, hx, hw j hj, hc x, hq]) (fun j x hj hx hq => by
      simp only [R0, RC, zipEnv, Nat.reduceLT, Nat.reduceAdd, Nat.reduceEqDiff, Nat.reduceLeDiff, reduceCtorEq, ↓reduceIte, ares, aresult, pr, Int.reduceEq, Int.reduceLT, Int.reduceLE, Nat.reduceSub, Nat.reduceMul, aFieldAddr, aField, aLoad, aStore, aExtract, aBox, aint, rdVar, rdCells, Value.oneCell', splice, Int.reduceNeg, zvar1, chunks, depth, some_map, Nat.reduceBEq, cf_dyn, okU, Tryz.f114, rf114, cl84, LitT.c, hj, hx, hw j hj, hc x, hq]) (by simp only [R0, RC, zipEnv, Nat.reduceLT, Nat.reduceAdd, Nat.reduceEqDiff, Nat.reduceLeDiff, reduceCtorEq, ↓reduceIte, ares, aresult, pr, Int.reduceEq, Int.reduceLT, Int.reduceLE, Nat.reduceSub, Nat.reduceMul, aFieldAddr, aField, aLoad, aStore, aExtract, aBox, aint, rdVar, rdCells, Value.oneCell', splice, Int.reduceNeg, zvar1, chunks, depth, some_map, Nat.reduceBEq, cf_dyn, okU, Tryz.f114, rf114]) with ⟨h, e⟩ | ⟨j, x, hj, hx, hq, h, e⟩
  · rw [e, idxOf_none h]
    simp only [R0, RC, zipEnv, Nat.reduceLT, Nat.reduceAdd, Nat.reduceEqDiff, Nat.reduceLeDiff, reduceCtorEq, ↓reduceIte, ares, aresult, pr, Int.reduceEq, Int.reduceLT, Int.reduceLE, Nat.reduceSub, Nat.reduceMul, aFieldAddr, aField, aLoad, aStore, aExtract, aBox, aint, rdVar, rdCells, Value.oneCell', splice, Int.reduceNeg, zvar1, chunks, depth, some_map, Nat.reduceBEq, cf_dyn, okU, Tryz.f114, rf114]
  · rw [e, idxOf_some h]
    simp only [R0, RC, zipEnv, Nat.reduceLT, Nat.reduceAdd, Nat.reduceEqDiff, Nat.reduceLeDiff, reduceCtorEq, ↓reduceIte, ares, aresult, pr, Int.reduceEq, Int.reduceLT, Int.reduceLE, Nat.reduceSub, Nat.reduceMul, aFieldAddr, aField, aLoad, aStore, aExtract, aBox, aint, rdVar, rdCells, Value.oneCell', splice, Int.reduceNeg, zvar1, chunks, depth, some_map, Nat.reduceBEq, cf_dyn, okU, Tryz.f114, rf114, cl84, LitT.c, hj, hx, hw j hj, hc x, hq]
theorem containsLit_run (ls : List LitT) (hl : ls.length ≤ 1000) (k : Nat) (hk : 1006 ≤ k) : val Tryz.prog cf k 83 [mkL 17 (ls.map LitT.c), .fn 84 []] = some (.sc (.bool (ls.any cl1))) := by
  obtain ⟨k, rfl⟩ : ∃ j, k = j + 1 := ⟨k - 1, by omega⟩
  refine val_of (r := .sc (.bool (ls.any cl1))) (H1 := []) ?_ rfl rfl
  rw [arun_body rfl rfl Tryz.func83 rfl (N := 9) rfl]
  have h := indexLit_run ls hl k (by omega)
  simp only [R0, RC, zipEnv, Nat.reduceLT, Nat.reduceAdd, Nat.reduceEqDiff, Nat.reduceLeDiff, reduceCtorEq, ↓reduceIte, ares, aresult, pr, Int.reduceEq, Int.reduceLT, Int.reduceLE, Nat.reduceSub, Nat.reduceMul, aFieldAddr, aField, aLoad, aStore, aExtract, aBox, aint, rdVar, rdCells, Value.oneCell', splice, Int.reduceNeg, zvar1, chunks, depth, some_map, Nat.reduceBEq, cf_dyn, okU, Tryz.f83, rf83, h, idx_any]
def closedT (r : RuleT) : Bool := !decide (r.fold = 0) || r.body.any cl1
theorem closed_run (r : RuleT) (hl : r.body.length ≤ 1000) (k : Nat) (hk : 1007 ≤ k) : val Tryz.prog cf k 47 [.agg r.c] = some (.sc (.bool (closedT r))) := by
  obtain ⟨k, rfl⟩ : ∃ j, k = j + 1 := ⟨k - 1, by omega⟩
  refine val_of (r := .sc (.bool (closedT r))) (H1 := []) ?_ rfl rfl
  rw [arun_body rfl rfl Tryz.func47 rfl (N := 11) rfl]
  have h := containsLit_run r.body hl k (by omega)
  unfold closedT
  by_cases h2 : r.fold = 0
  · simp only [R0, RC, zipEnv, Nat.reduceLT, Nat.reduceAdd, Nat.reduceEqDiff, Nat.reduceLeDiff, reduceCtorEq, ↓reduceIte, ares, aresult, pr, Int.reduceEq, Int.reduceLT, Int.reduceLE, Nat.reduceSub, Nat.reduceMul, aFieldAddr, aField, aLoad, aStore, aExtract, aBox, aint, rdVar, rdCells, Value.oneCell', splice, Int.reduceNeg, zvar1, chunks, depth, some_map, Nat.reduceBEq, cf_dyn, okU, Tryz.f47, rf47, RuleT.c, h2, h]
  · simp only [R0, RC, zipEnv, Nat.reduceLT, Nat.reduceAdd, Nat.reduceEqDiff, Nat.reduceLeDiff, reduceCtorEq, ↓reduceIte, ares, aresult, pr, Int.reduceEq, Int.reduceLT, Int.reduceLE, Nat.reduceSub, Nat.reduceMul, aFieldAddr, aField, aLoad, aStore, aExtract, aBox, aint, rdVar, rdCells, Value.oneCell', splice, Int.reduceNeg, zvar1, chunks, depth, some_map, Nat.reduceBEq, cf_dyn, okU, Tryz.f47, rf47, RuleT.c, h2, h]
theorem clo_open {H : List Blk} {ms : SM} {names : List ByteArray} (h1 : H[1]? = some ⟨0, 0, 0, false, [], .map (encM ms)⟩) (h2 : H[2]? = some ⟨84, 1, 0, false, [.mp 1 0], .cells⟩) (i : Nat) (t : ByteArray) (ht : names[i]? = some t) (k : Nat) : arun Tryz.prog cf (k + 1) 50 [.sc (.int .i64 (i : Nat)), .ptr 2 0 0, .ro [mkL 1 (sRows names)]] H = some (.sc (.bool (decide (0 < lookM ms t))), H) := by
  have hl := look_sI (H := H) (x := .mp 1 0) (m := ms) (s := t) (mapOf_mp h1)
  rw [arun_body rfl rfl Tryz.func50 rfl (N := 12) rfl]
  simp only [R0, RC, zipEnv, Nat.reduceLT, Nat.reduceAdd, Nat.reduceEqDiff, Nat.reduceLeDiff, reduceCtorEq, ↓reduceIte, ares, aresult, pr, Int.reduceEq, Int.reduceLT, Int.reduceLE, Nat.reduceSub, Nat.reduceMul, aFieldAddr, aField, aLoad, aStore, aExtract, aBox, aint, rdVar, rdCells, Value.oneCell', splice, Int.reduceNeg, zvar1, chunks, depth, some_map, Nat.reduceBEq, cf_dyn, okU, Tryz.f50, rf50, h2, ht, sC, aop_lookup, hl]
  done
section
variable {H : List Blk} {ms : SM} {names : List ByteArray} (h1 : H[1]? = some ⟨0, 0, 0, false, [], .map (encM ms)⟩) (h2 : H[2]? = some ⟨84, 1, 0, false, [.mp 1 0], .cells⟩)
include h1 h2
theorem indexInt_run (L : List Nat) (q : Nat → Bool) (hq : ∀ i ∈ L, ∃ t, names[i]? = some t ∧ q i = decide (0 < lookM ms t)) (hl : L.length ≤ 1000) (k : Nat) (hk : 1005 ≤ k) : arun Tryz.prog cf k 88 [mkL 1 (nRows L), .fn 50 [.ptr 2 0 0, .ro [mkL 1 (sRows names)]]] H = some (.sc (.int .i64 (idxOf L q)), H) := by
  obtain ⟨k, rfl⟩ : ∃ j, k = j + 1 := ⟨k - 1, by omega⟩
  rw [arun_body rfl rfl Tryz.func88 rfl (N := 19) rfl]
  have hw := wraps (n := L.length) (by omega)
  have hc : ∀ i ∈ L, arun Tryz.prog cf k 50 [.sc (.int .i64 (i : Nat)), .ptr 2 0 0, .ro [mkL 1 (sRows names)]] H = some (.sc (.bool (q i)), H) := fun i hi => by
    obtain ⟨t, ht, hqi⟩ := hq i hi
    have := clo_open h1 h2 i t ht (k - 1)
    rw [show k - 1 + 1 = k by omega] at this
    rw [this, hqi]
  simp only [R0, RC, zipEnv, Nat.reduceLT, Nat.reduceAdd, Nat.reduceEqDiff, Nat.reduceLeDiff, reduceCtorEq, ↓reduceIte, ares, aresult, pr, Int.reduceEq, Int.reduceLT, Int.reduceLE, Nat.reduceSub, Nat.reduceMul, aFieldAddr, aField, aLoad, aStore, aExtract, aBox, aint, rdVar, rdCells, Value.oneCell', splice, Int.reduceNeg, zvar1, chunks, depth, some_map, Nat.reduceBEq, cf_dyn, okU, Tryz.f88, rf88]
  generalize hA : aloop _ _ _ _ _ _ _ _ _ _ _ = A
  rcases aloop_list hA [0, 1, 7, 8] (fun j => ⟨[(0, mkL 1 (nRows L)), (1, .fn 50 [.ptr 2 0 0, .ro [mkL 1 (sRows names)]]), (7, .sc (.int .i64 L.length)), (8, .sc (.int .i64 (j : Nat)))], H⟩) L q (by omega) rfl rfl (fun j x hj hx hqx => by
      simp only [R0, RC, zipEnv, Nat.reduceLT, Nat.reduceAdd, Nat.reduceEqDiff, Nat.reduceLeDiff, reduceCtorEq, ↓reduceIte, ares, aresult, pr, Int.reduceEq, Int.reduceLT, Int.reduceLE, Nat.reduceSub, Nat.reduceMul, aFieldAddr, aField, aLoad, aStore, aExtract, aBox, aint, rdVar, rdCells, Value.oneCell', splice, Int.reduceNeg, zvar1, chunks, depth, some_map, Nat.reduceBEq, cf_dyn, okU, Tryz.f88, rf88, cl50, hj, hx, hw j hj, hc x (List.mem_of_getElem? hx), hqx]) (fun j x hj hx hqx => by
      simp only [R0, RC, zipEnv, Nat.reduceLT, Nat.reduceAdd, Nat.reduceEqDiff, Nat.reduceLeDiff, reduceCtorEq, ↓reduceIte, ares, aresult, pr, Int.reduceEq, Int.reduceLT, Int.reduceLE, Nat.reduceSub, Nat.reduceMul, aFieldAddr, aField, aLoad, aStore, aExtract, aBox, aint, rdVar, rdCells, Value.oneCell', splice, Int.reduceNeg, zvar1, chunks, depth, some_map, Nat.reduceBEq, cf_dyn, okU, Tryz.f88, rf88, cl50, hj, hx, hw j hj, hc x (List.mem_of_getElem? hx), hqx]) (by simp only [R0, RC, zipEnv, Nat.reduceLT, Nat.reduceAdd, Nat.reduceEqDiff, Nat.reduceLeDiff, reduceCtorEq, ↓reduceIte, ares, aresult, pr, Int.reduceEq, Int.reduceLT, Int.reduceLE, Nat.reduceSub, Nat.reduceMul, aFieldAddr, aField, aLoad, aStore, aExtract, aBox, aint, rdVar, rdCells, Value.oneCell', splice, Int.reduceNeg, zvar1, chunks, depth, some_map, Nat.reduceBEq, cf_dyn, okU, Tryz.f88, rf88]) with ⟨h, e⟩ | ⟨j, x, hj, hx, hqx, h, e⟩
  · rw [e, idxOf_none h]
    simp only [R0, RC, zipEnv, Nat.reduceLT, Nat.reduceAdd, Nat.reduceEqDiff, Nat.reduceLeDiff, reduceCtorEq, ↓reduceIte, ares, aresult, pr, Int.reduceEq, Int.reduceLT, Int.reduceLE, Nat.reduceSub, Nat.reduceMul, aFieldAddr, aField, aLoad, aStore, aExtract, aBox, aint, rdVar, rdCells, Value.oneCell', splice, Int.reduceNeg, zvar1, chunks, depth, some_map, Nat.reduceBEq, cf_dyn, okU, Tryz.f88, rf88]
  · rw [e, idxOf_some h]
    simp only [R0, RC, zipEnv, Nat.reduceLT, Nat.reduceAdd, Nat.reduceEqDiff, Nat.reduceLeDiff, reduceCtorEq, ↓reduceIte, ares, aresult, pr, Int.reduceEq, Int.reduceLT, Int.reduceLE, Nat.reduceSub, Nat.reduceMul, aFieldAddr, aField, aLoad, aStore, aExtract, aBox, aint, rdVar, rdCells, Value.oneCell', splice, Int.reduceNeg, zvar1, chunks, depth, some_map, Nat.reduceBEq, cf_dyn, okU, Tryz.f88, rf88, cl50, hj, hx, hw j hj, hc x (List.mem_of_getElem? hx), hqx]
theorem containsInt_run (L : List Nat) (q : Nat → Bool) (hq : ∀ i ∈ L, ∃ t, names[i]? = some t ∧ q i = decide (0 < lookM ms t)) (hl : L.length ≤ 1000) (k : Nat) (hk : 1006 ≤ k) : arun Tryz.prog cf k 49 [mkL 1 (nRows L), .fn 50 [.ptr 2 0 0, .ro [mkL 1 (sRows names)]]] H = some (.sc (.bool (L.any q)), H) := by
  obtain ⟨k, rfl⟩ : ∃ j, k = j + 1 := ⟨k - 1, by omega⟩
  have h := indexInt_run h1 h2 L q hq hl k (by omega)
  rw [arun_body rfl rfl Tryz.func49 rfl (N := 9) rfl]
  simp only [R0, RC, zipEnv, Nat.reduceLT, Nat.reduceAdd, Nat.reduceEqDiff, Nat.reduceLeDiff, reduceCtorEq, ↓reduceIte, ares, aresult, pr, Int.reduceEq, Int.reduceLT, Int.reduceLE, Nat.reduceSub, Nat.reduceMul, aFieldAddr, aField, aLoad, aStore, aExtract, aBox, aint, rdVar, rdCells, Value.oneCell', splice, Int.reduceNeg, zvar1, chunks, depth, some_map, Nat.reduceBEq, cf_dyn, okU, Tryz.f49, rf49, h, idx_any]
end
def derR (rs : List RuleT) (s : ByteArray) : Nat := (rs.map fun r => if r.head.p = s then r.body.length else 0).sum
def shutR (rs : List RuleT) (s : ByteArray) : Nat := (rs.map fun r => if r.head.p = s ∧ closedT r = true then 1 else 0).sum
theorem sum_take {α : Type} {f : α → Nat} {l : List α} {j : Nat} {x : α} (h : l[j]? = some x) : ((l.take (j + 1)).map f).sum = ((l.take j).map f).sum + f x := by
  obtain ⟨hj, rfl⟩ := List.getElem?_eq_some_iff.1 h
  rw [List.take_succ_eq_append_getElem hj, List.map_append, List.sum_append]
  simp
def needsE (p : ProgT) : List (Nat × Nat) := (needsT p).map fun z => (z.1.toNat, z.2.toNat)
theorem needsT_at {p : ProgT} {z : I2} (h : z ∈ needsT p) : ∃ r ∈ p.rules, ∃ l ∈ r.body, ∃ s ∈ usesT l, z = ((posS (namesT p) r.head.p : Int), (posS (namesT p) s : Int)) := by
  have h := (Ord.nsort_mem linP2 _ _).1 h
  unfold rawN rawR at h
  obtain ⟨r, hr, h⟩ := List.mem_flatMap.1 h
  obtain ⟨q, hq, rfl⟩ := List.mem_map.1 h
  unfold eachL at hq
  obtain ⟨l, hl, hq⟩ := List.mem_flatMap.1 hq
  obtain ⟨s, hs, rfl⟩ := List.mem_map.1 hq
  exact ⟨r, hr, l, hl, s, hs, rfl⟩
theorem needsE_enc (p : ProgT) : (needsE p).map toI2 = needsT p := by
  unfold needsE
  rw [List.map_map]
  conv => rhs; rw [← List.map_id (needsT p)]
  refine List.map_congr_left fun z hz => ?_
  obtain ⟨r, _, l, _, s, _, rfl⟩ := needsT_at hz
  rfl
theorem head_named {p : ProgT} {r : RuleT} (hr : r ∈ p.rules) : r.head.p ∈ namesT p := (Ord.nsort_mem Ord.linS _ _).2 (by
    simp only [allN, List.mem_cons, List.mem_flatMap]
    exact .inr ⟨r, hr, by simp [ruleN]⟩)
theorem uses_named {p : ProgT} {r : RuleT} (hr : r ∈ p.rules) {l : LitT} (hl : l ∈ r.body) {s : ByteArray} (hs : s ∈ usesT l) : s ∈ namesT p := (Ord.nsort_mem Ord.linS _ _).2 (by
    simp only [allN, List.mem_cons, List.mem_flatMap]
    refine .inr ⟨r, hr, ?_⟩
    simp only [ruleN, List.mem_cons, List.mem_map, eachL, List.mem_flatMap]
    exact .inr ⟨(l, s), ⟨l, hl, s, hs, rfl⟩, rfl⟩)
theorem needsE_lt {p : ProgT} : ∀ x ∈ needsE p, x.1 < (namesT p).length ∧ x.2 < (namesT p).length := by
  intro x hx
  obtain ⟨z, hz, rfl⟩ := List.mem_map.1 hx
  obtain ⟨r, hr, l, hl, s, hs, rfl⟩ := needsT_at hz
  obtain ⟨h1, _⟩ := posS_mem (namesT_up p) (head_named hr)
  obtain ⟨h2, _⟩ := posS_mem (namesT_up p) (uses_named hr hl hs)
  exact ⟨h1, h2⟩
open Classical in
noncomputable def openB (p : ProgT) (s : ByteArray) : Bool := decide (0 < derR p.rules s ∧ ∀ v t, Rch (adjN (needsE p)) (posS (namesT p) s) v → (namesT p)[v]? = some t → shutR p.rules t = 0)
noncomputable def openT (p : ProgT) : List ByteArray := (namesT p).filter (openB p)
theorem filter_take {α : Type} {q : α → Bool} {l : List α} {j : Nat} {x : α} (h : l[j]? = some x) : (l.take (j + 1)).filter q = (l.take j).filter q ++ if q x = true then [x] else [] := by
  obtain ⟨hj, rfl⟩ := List.getElem?_eq_some_iff.1 h
  rw [List.take_succ_eq_append_getElem hj, List.filter_append]
  cases hq : q l[j] <;> simp [hq]
end Go.Proofs.YtpgipdajinkdgaaGreatA
