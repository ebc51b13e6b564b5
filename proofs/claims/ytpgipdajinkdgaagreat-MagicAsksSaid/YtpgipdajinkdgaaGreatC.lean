/- A part of the proof of MagicAsks: functions of the program, run by the evaluator. -/

/- Rows of demands: in, Same, Index, IndexFunc, Contains, ContainsFunc, Use. -/
import Derived.Test.YtpgipdajinkdgaaGreatB
namespace Go.Proofs.YtpgipdajinkdgaaGreatA
open Go Go.RowKit
set_option linter.all false
set_option linter.unusedSectionVars false
set_option linter.constructorNameAsVariable false
set_option linter.unusedVariables false
set_option linter.unusedSimpArgs false
theorem find_any {α : Type} {l : List α} {q : α → Bool} (h : l.findIdx? q = none) : l.any q = false := by rw [any_find, h]; rfl
theorem find_any' {α : Type} {l : List α} {q : α → Bool} {j : Nat} (h : l.findIdx? q = some j) : l.any q = true := by rw [any_find, h]; rfl
def idxOf {α : Type} (l : List α) (q : α → Bool) : Int := match l.findIdx? q with
  | some i => i
  | none => -1
theorem idxOf_none {α : Type} {l : List α} {q : α → Bool} (h : l.findIdx? q = none) : idxOf l q = -1 := by unfold idxOf; rw [h]
theorem idxOf_some {α : Type} {l : List α} {q : α → Bool} {j : Nat} (h : l.findIdx? q = some j) : idxOf l q = j := by unfold idxOf; rw [h]
theorem idx_any {α : Type} {l : List α} {q : α → Bool} : decide (0 ≤ idxOf l q) = l.any q := by
  rw [any_find]
  unfold idxOf
  cases h : l.findIdx? q <;> simp
theorem index_run (l : List D2) (d : D2) (hl : l.length ≤ 1000) (k : Nat) (hk : 1002 ≤ k) : val Tryz.prog cf k 92 [mkL 2 (l.map D2.c), .agg [.sc (.string d.1), .sc (.string d.2)]] = some (.sc (.int .i64 (idxOf l fun x => decide (d = x)))) := by
  obtain ⟨k, rfl⟩ : ∃ j, k = j + 1 := ⟨k - 1, by omega⟩
  refine val_of (r := .sc (.int .i64 (idxOf l fun x => decide (d = x)))) (H1 := []) ?_ rfl rfl
  rw [arun_body rfl rfl Tryz.func92 rfl (N := 19) rfl]
  have hw := wraps (n := l.length) (by omega)
  simp only [R0, RC, zipEnv, Nat.reduceLT, Nat.reduceAdd, Nat.reduceEqDiff, Nat.reduceLeDiff, reduceCtorEq, ↓reduceIte, ares, aresult, pr, Int.reduceEq, Int.reduceLT, Int.reduceLE, Nat.reduceSub, Nat.reduceMul, aFieldAddr, aField, aLoad, aStore, aExtract, aBox, aint, rdVar, rdCells, Value.oneCell', splice, Int.reduceNeg, zvar1, chunks, depth, some_map, Nat.reduceBEq, cf_dyn, okU, Tryz.f92, rf92]
  generalize hA : aloop _ _ _ _ _ _ _ _ _ _ _ = A
  rcases aloop_list hA [0, 3, 7, 8] (fun j => ⟨[(0, mkL 2 (l.map D2.c)), (3, .ro [.sc (.string d.1), .sc (.string d.2)]), (7, .sc (.int .i64 l.length)), (8, .sc (.int .i64 (j : Nat)))], []⟩) l (fun x => decide (d = x)) (by omega) rfl rfl (fun j x hj hx hq => by
      simp only [R0, RC, zipEnv, Nat.reduceLT, Nat.reduceAdd, Nat.reduceEqDiff, Nat.reduceLeDiff, reduceCtorEq, ↓reduceIte, ares, aresult, pr, Int.reduceEq, Int.reduceLT, Int.reduceLE, Nat.reduceSub, Nat.reduceMul, aFieldAddr, aField, aLoad, aStore, aExtract, aBox, aint, rdVar, rdCells, Value.oneCell', splice, Int.reduceNeg, zvar1, chunks, depth, some_map, Nat.reduceBEq, cf_dyn, okU, Tryz.f92, rf92, D2.c, hj, hx, hw j hj, eqA, eqD, hq]) (fun j x hj hx hq => by
      simp only [R0, RC, zipEnv, Nat.reduceLT, Nat.reduceAdd, Nat.reduceEqDiff, Nat.reduceLeDiff, reduceCtorEq, ↓reduceIte, ares, aresult, pr, Int.reduceEq, Int.reduceLT, Int.reduceLE, Nat.reduceSub, Nat.reduceMul, aFieldAddr, aField, aLoad, aStore, aExtract, aBox, aint, rdVar, rdCells, Value.oneCell', splice, Int.reduceNeg, zvar1, chunks, depth, some_map, Nat.reduceBEq, cf_dyn, okU, Tryz.f92, rf92, D2.c, hj, hx, hw j hj, eqA, eqD, hq]) (by simp only [R0, RC, zipEnv, Nat.reduceLT, Nat.reduceAdd, Nat.reduceEqDiff, Nat.reduceLeDiff, reduceCtorEq, ↓reduceIte, ares, aresult, pr, Int.reduceEq, Int.reduceLT, Int.reduceLE, Nat.reduceSub, Nat.reduceMul, aFieldAddr, aField, aLoad, aStore, aExtract, aBox, aint, rdVar, rdCells, Value.oneCell', splice, Int.reduceNeg, zvar1, chunks, depth, some_map, Nat.reduceBEq, cf_dyn, okU, Tryz.f92, rf92]) with ⟨h, e⟩ | ⟨j, x, hj, hx, hq, h, e⟩
  · rw [e, idxOf_none h]
    simp only [R0, RC, zipEnv, Nat.reduceLT, Nat.reduceAdd, Nat.reduceEqDiff, Nat.reduceLeDiff, reduceCtorEq, ↓reduceIte, ares, aresult, pr, Int.reduceEq, Int.reduceLT, Int.reduceLE, Nat.reduceSub, Nat.reduceMul, aFieldAddr, aField, aLoad, aStore, aExtract, aBox, aint, rdVar, rdCells, Value.oneCell', splice, Int.reduceNeg, zvar1, chunks, depth, some_map, Nat.reduceBEq, cf_dyn, okU, Tryz.f92, rf92]
  · rw [e, idxOf_some h]
    simp only [R0, RC, zipEnv, Nat.reduceLT, Nat.reduceAdd, Nat.reduceEqDiff, Nat.reduceLeDiff, reduceCtorEq, ↓reduceIte, ares, aresult, pr, Int.reduceEq, Int.reduceLT, Int.reduceLE, Nat.reduceSub, Nat.reduceMul, aFieldAddr, aField, aLoad, aStore, aExtract, aBox, aint, rdVar, rdCells, Value.oneCell', splice, Int.reduceNeg, zvar1, chunks, depth, some_map, Nat.reduceBEq, cf_dyn, okU, Tryz.f92, rf92, D2.c, hj, hx, hw j hj, eqA, eqD, hq]
theorem contains_run (l : List D2) (d : D2) (hl : l.length ≤ 1000) (k : Nat) (hk : 1003 ≤ k) : val Tryz.prog cf k 54 [mkL 2 (l.map D2.c), .agg [.sc (.string d.1), .sc (.string d.2)]] = some (.sc (.bool (l.any fun x => decide (d = x)))) := by
  obtain ⟨k, rfl⟩ : ∃ j, k = j + 1 := ⟨k - 1, by omega⟩
  refine val_of (r := .sc (.bool (l.any fun x => decide (d = x)))) (H1 := []) ?_ rfl rfl
  rw [arun_body rfl rfl Tryz.func54 rfl (N := 9) rfl]
  simp only [R0, RC, zipEnv, Nat.reduceLT, Nat.reduceAdd, Nat.reduceEqDiff, Nat.reduceLeDiff, reduceCtorEq, ↓reduceIte, ares, aresult, pr, Int.reduceEq, Int.reduceLT, Int.reduceLE, Nat.reduceSub, Nat.reduceMul, aFieldAddr, aField, aLoad, aStore, aExtract, aBox, aint, rdVar, rdCells, Value.oneCell', splice, Int.reduceNeg, zvar1, chunks, depth, some_map, Nat.reduceBEq, cf_dyn, okU, Tryz.f54, rf54, D2.c, index_run l d hl k (by omega), idx_any]
def Asks {α : Type} (k : Nat) (g : FuncId) (caps : List AV) (row : α → AV) (p : α → Bool) (l : List α) : Prop := ∀ x ∈ l, val Tryz.prog cf k g (row x :: caps) = some (.sc (.bool (p x)))
theorem indexFunc_run {g : FuncId} {caps : List AV} (hm : cf.mode g = 3) (hb : noExt Tryz.prog g = true) (hc : ∀ H, amap (rb H depth) caps = some caps) (l : List D2) (p : D2 → Bool) (hl : l.length ≤ 1000) (k : Nat) (hk : 1002 ≤ k) (hp : Asks (k - 1) g caps (fun d : D2 => .agg d.c) p l) : val Tryz.prog cf k 95 [mkL 2 (l.map D2.c), .fn g caps] = some (.sc (.int .i64 (idxOf l p))) := by
  obtain ⟨k, rfl⟩ : ∃ j, k = j + 1 := ⟨k - 1, by omega⟩
  refine val_of (r := .sc (.int .i64 (idxOf l p))) (H1 := []) ?_ rfl rfl
  rw [arun_body rfl rfl Tryz.func95 rfl (N := 19) rfl]
  have hw := wraps (n := l.length) (by omega)
  have hcall : ∀ (x : D2), x ∈ l → ∀ (strict : Bool) (H : List Blk), callR Tryz.prog (acall cf.mode strict (arun Tryz.prog cf k)) H (.fn g caps) [.agg [.sc (.string x.1), .sc (.string x.2)]] = some (.sc (.bool (p x)), H) := fun x hx strict H => by
    rw [callR_3 hm hb]
    have h1 : amap (rb H depth) ([.agg [.sc (.string x.1), .sc (.string x.2)]] ++ caps) = some (.agg [.sc (.string x.1), .sc (.string x.2)] :: caps) := by
      simp only [List.cons_append, List.nil_append, amap_cons, hc]
      rfl
    rw [h1, Option.bind_some, show val Tryz.prog cf k g (.agg [.sc (.string x.1), .sc (.string x.2)] :: caps) = some (.sc (.bool (p x))) from hp x hx]
    rfl
  simp only [R0, RC, zipEnv, Nat.reduceLT, Nat.reduceAdd, Nat.reduceEqDiff, Nat.reduceLeDiff, reduceCtorEq, ↓reduceIte, ares, aresult, pr, Int.reduceEq, Int.reduceLT, Int.reduceLE, Nat.reduceSub, Nat.reduceMul, aFieldAddr, aField, aLoad, aStore, aExtract, aBox, aint, rdVar, rdCells, Value.oneCell', splice, Int.reduceNeg, zvar1, chunks, depth, some_map, Nat.reduceBEq, cf_dyn, okU, Tryz.f95, rf95]
  generalize hA : aloop _ _ _ _ _ _ _ _ _ _ _ = A
  rcases aloop_list hA [0, 1, 7, 8] (fun j => ⟨[(0, mkL 2 (l.map D2.c)), (1, .fn g caps), (7, .sc (.int .i64 l.length)), (8, .sc (.int .i64 (j : Nat)))], []⟩) l p (by omega) rfl rfl (fun j x hj hx hq => by
      simp only [R0, RC, zipEnv, Nat.reduceLT, Nat.reduceAdd, Nat.reduceEqDiff, Nat.reduceLeDiff, reduceCtorEq, ↓reduceIte, ares, aresult, pr, Int.reduceEq, Int.reduceLT, Int.reduceLE, Nat.reduceSub, Nat.reduceMul, aFieldAddr, aField, aLoad, aStore, aExtract, aBox, aint, rdVar, rdCells, Value.oneCell', splice, Int.reduceNeg, zvar1, chunks, depth, some_map, Nat.reduceBEq, cf_dyn, okU, Tryz.f95, rf95, D2.c, hj, hx, hw j hj, hcall x (List.mem_of_getElem? hx), hq]) (fun j x hj hx hq => by
      simp only [R0, RC, zipEnv, Nat.reduceLT, Nat.reduceAdd, Nat.reduceEqDiff, Nat.reduceLeDiff, reduceCtorEq, ↓reduceIte, ares, aresult, pr, Int.reduceEq, Int.reduceLT, Int.reduceLE, Nat.reduceSub, Nat.reduceMul, aFieldAddr, aField, aLoad, aStore, aExtract, aBox, aint, rdVar, rdCells, Value.oneCell', splice, Int.reduceNeg, zvar1, chunks, depth, some_map, Nat.reduceBEq, cf_dyn, okU, Tryz.f95, rf95, D2.c, hj, hx, hw j hj, hcall x (List.mem_of_getElem? hx), hq]) (by simp only [R0, RC, zipEnv, Nat.reduceLT, Nat.reduceAdd, Nat.reduceEqDiff, Nat.reduceLeDiff, reduceCtorEq, ↓reduceIte, ares, aresult, pr, Int.reduceEq, Int.reduceLT, Int.reduceLE, Nat.reduceSub, Nat.reduceMul, aFieldAddr, aField, aLoad, aStore, aExtract, aBox, aint, rdVar, rdCells, Value.oneCell', splice, Int.reduceNeg, zvar1, chunks, depth, some_map, Nat.reduceBEq, cf_dyn, okU, Tryz.f95, rf95]) with ⟨h, e⟩ | ⟨j, x, hj, hx, hq, h, e⟩
  · rw [e, idxOf_none h]
    simp only [R0, RC, zipEnv, Nat.reduceLT, Nat.reduceAdd, Nat.reduceEqDiff, Nat.reduceLeDiff, reduceCtorEq, ↓reduceIte, ares, aresult, pr, Int.reduceEq, Int.reduceLT, Int.reduceLE, Nat.reduceSub, Nat.reduceMul, aFieldAddr, aField, aLoad, aStore, aExtract, aBox, aint, rdVar, rdCells, Value.oneCell', splice, Int.reduceNeg, zvar1, chunks, depth, some_map, Nat.reduceBEq, cf_dyn, okU, Tryz.f95, rf95]
  · rw [e, idxOf_some h]
    simp only [R0, RC, zipEnv, Nat.reduceLT, Nat.reduceAdd, Nat.reduceEqDiff, Nat.reduceLeDiff, reduceCtorEq, ↓reduceIte, ares, aresult, pr, Int.reduceEq, Int.reduceLT, Int.reduceLE, Nat.reduceSub, Nat.reduceMul, aFieldAddr, aField, aLoad, aStore, aExtract, aBox, aint, rdVar, rdCells, Value.oneCell', splice, Int.reduceNeg, zvar1, chunks, depth, some_map, Nat.reduceBEq, cf_dyn, okU, Tryz.f95, rf95, D2.c, hj, hx, hw j hj, hcall x (List.mem_of_getElem? hx), hq]
theorem clo_use (x d : D2) (hs : x.2.size ≤ 1000) (k : Nat) (hk : 1003 ≤ k) : val Tryz.prog cf k 96 [.agg [.sc (.string x.1), .sc (.string x.2)], .ro [.sc (.string d.1), .sc (.string d.2)]] = some (.sc (.bool (covD x d))) := by
  obtain ⟨k, rfl⟩ : ∃ j, k = j + 1 := ⟨k - 1, by omega⟩
  refine val_of (r := .sc (.bool (covD x d))) (H1 := []) ?_ rfl rfl
  rw [arun_body rfl rfl Tryz.func96 rfl (N := 7) rfl]
  simp only [R0, RC, zipEnv, Nat.reduceLT, Nat.reduceAdd, Nat.reduceEqDiff, Nat.reduceLeDiff, reduceCtorEq, ↓reduceIte, ares, aresult, pr, Int.reduceEq, Int.reduceLT, Int.reduceLE, Nat.reduceSub, Nat.reduceMul, aFieldAddr, aField, aLoad, aStore, aExtract, aBox, aint, rdVar, rdCells, Value.oneCell', splice, Int.reduceNeg, zvar1, chunks, depth, some_map, Nat.reduceBEq, cf_dyn, okU, Tryz.f96, rf96, acovers_run x d hs k (by omega)]
def dz : D2 := (.empty, .empty)
def useD (l : List D2) (d : D2) : D2 × Bool := match l.findIdx? (fun x => covD x d) with
  | some i => ((l[i]?).getD dz, true)
  | none => (dz, false)
theorem use_run (l : List D2) (d : D2) (hl : l.length ≤ 1000) (hs : ∀ x ∈ l, x.2.size ≤ 1000) (k : Nat) (hk : 1005 ≤ k) : val Tryz.prog cf k 59 [mkL 2 (l.map D2.c), .agg [.sc (.string d.1), .sc (.string d.2)]] = some (.tup [.agg [.sc (.string (useD l d).1.1), .sc (.string (useD l d).1.2)], .sc (.bool (useD l d).2)]) := by
  obtain ⟨k, rfl⟩ : ∃ j, k = j + 1 := ⟨k - 1, by omega⟩
  have hi := indexFunc_run (g := 96) (caps := [.ro [.sc (.string d.1), .sc (.string d.2)]]) rfl (noExt_of Tryz.func96 rfl) (fun H => rfl) l (fun x => covD x d) hl k (by omega) (fun x hx => clo_use x d (hs x hx) (k - 1) (by omega))
  unfold useD
  cases hf : l.findIdx? (fun x => covD x d) with
  | none =>
    rw [idxOf_none hf] at hi
    exact val_of (H1 := _) (r := .tup [.agg [.sc (.string .empty), .sc (.string .empty)], .sc (.bool false)]) (by rw [arun_body rfl rfl Tryz.func59 rfl (N := 17) rfl]; simp only [R0, RC, zipEnv, Nat.reduceLT, Nat.reduceAdd, Nat.reduceEqDiff, Nat.reduceLeDiff, reduceCtorEq, ↓reduceIte, ares, aresult, pr, Int.reduceEq, Int.reduceLT, Int.reduceLE, Nat.reduceSub, Nat.reduceMul, aFieldAddr, aField, aLoad, aStore, aExtract, aBox, aint, rdVar, rdCells, Value.oneCell', splice, Int.reduceNeg, zvar1, chunks, depth, some_map, Nat.reduceBEq, cf_dyn, okU, Tryz.f59, rf59, hi]; rfl) rfl rfl
  | some i =>
    rw [idxOf_some hf] at hi
    obtain ⟨hlt, _⟩ := List.findIdx?_eq_some_iff_getElem.1 hf
    obtain ⟨x, hx⟩ : ∃ x, l[i]? = some x := ⟨_, List.getElem?_eq_getElem hlt⟩
    have hnn : ¬ (i : Int) < 0 := by omega
    simp only [hx, Option.getD_some]
    exact val_of (H1 := _) (r := .tup [.agg [.sc (.string x.1), .sc (.string x.2)], .sc (.bool true)]) (by rw [arun_body rfl rfl Tryz.func59 rfl (N := 17) rfl]; simp only [R0, RC, zipEnv, Nat.reduceLT, Nat.reduceAdd, Nat.reduceEqDiff, Nat.reduceLeDiff, reduceCtorEq, ↓reduceIte, ares, aresult, pr, Int.reduceEq, Int.reduceLT, Int.reduceLE, Nat.reduceSub, Nat.reduceMul, aFieldAddr, aField, aLoad, aStore, aExtract, aBox, aint, rdVar, rdCells, Value.oneCell', splice, Int.reduceNeg, zvar1, chunks, depth, some_map, Nat.reduceBEq, cf_dyn, okU, Tryz.f59, rf59, hi, hnn, hx, D2.c]; rfl) rfl rfl
end Go.Proofs.YtpgipdajinkdgaaGreatA
