/- comps.Comps: is a group free? -/
import Derived.Test.YtigfnhbbfbnicaaN27
import Derived.Test.YtigfnhbbfbnicaaC
namespace Go.Proofs.YtigfnhbbfbnicaaA
open Go Go.RowKit
set_option linter.all false
set_option linter.unusedSectionVars false
set_option linter.constructorNameAsVariable false
set_option linter.unusedVariables false
set_option linter.unusedSimpArgs false
theorem idxI_gen {H : List Blk} {g : FuncId} {caps : List AV} (L : List Nat) (q : Nat → Bool) (hl : L.length ≤ 100000) (k : Nat) (hk : 100005 ≤ k)
    (hc : ∀ i ∈ L, ∀ strict, callR Try.prog (acall cf.mode strict (arun Try.prog cf (k - 1))) H (.fn g caps) [.sc (.int .i64 (i : Nat))] = some (.sc (.bool (q i)), H)) :
    arun Try.prog cf k 75 [mkL 1 (nRows L), .fn g caps] H = some (.sc (.int .i64 (idxOf L q)), H) := by
  obtain ⟨k, rfl⟩ : ∃ j, k = j + 1 := ⟨k - 1, by omega⟩
  rw [Nat.add_sub_cancel] at hc
  rw [arun_body rfl rfl Try.func75 rfl (N := 19) rfl]
  have hw := wraps (n := L.length) (by omega)
  simp only [R0, RC, zipEnv, Nat.reduceLT, Nat.reduceAdd, Nat.reduceEqDiff, Nat.reduceLeDiff, reduceCtorEq, ↓reduceIte, ares, aresult, pr, Int.reduceEq, Int.reduceLT, Int.reduceLE, Nat.reduceSub, Nat.reduceMul, aFieldAddr, aField, aLoad, aStore, aExtract, aBox, aint, rdVar, rdCells, Value.oneCell', splice, Int.reduceNeg, zvar1, chunks, depth, some_map, Nat.reduceBEq, cf_dyn, okU, Try.f75, rf75]
  generalize hA : aloop _ _ _ _ _ _ _ _ _ _ _ = A
  rcases aloop_list hA [0, 1, 7, 8] (fun j => ⟨[(0, mkL 1 (nRows L)), (1, .fn g caps), (7, .sc (.int .i64 L.length)), (8, .sc (.int .i64 (j : Nat)))], H⟩) L q (by omega) rfl rfl (fun j x hj hx hqx => by
      simp only [R0, RC, zipEnv, Nat.reduceLT, Nat.reduceAdd, Nat.reduceEqDiff, Nat.reduceLeDiff, reduceCtorEq, ↓reduceIte, ares, aresult, pr, Int.reduceEq, Int.reduceLT, Int.reduceLE, Nat.reduceSub, Nat.reduceMul, aFieldAddr, aField, aLoad, aStore, aExtract, aBox, aint, rdVar, rdCells, Value.oneCell', splice, Int.reduceNeg, zvar1, chunks, depth, some_map, Nat.reduceBEq, cf_dyn, okU, Try.f75, rf75, hj, hx, hw j hj, hc x (List.mem_of_getElem? hx), hqx]) (fun j x hj hx hqx => by
      simp only [R0, RC, zipEnv, Nat.reduceLT, Nat.reduceAdd, Nat.reduceEqDiff, Nat.reduceLeDiff, reduceCtorEq, ↓reduceIte, ares, aresult, pr, Int.reduceEq, Int.reduceLT, Int.reduceLE, Nat.reduceSub, Nat.reduceMul, aFieldAddr, aField, aLoad, aStore, aExtract, aBox, aint, rdVar, rdCells, Value.oneCell', splice, Int.reduceNeg, zvar1, chunks, depth, some_map, Nat.reduceBEq, cf_dyn, okU, Try.f75, rf75, hj, hx, hw j hj, hc x (List.mem_of_getElem? hx), hqx]) (by simp only [R0, RC, zipEnv, Nat.reduceLT, Nat.reduceAdd, Nat.reduceEqDiff, Nat.reduceLeDiff, reduceCtorEq, ↓reduceIte, ares, aresult, pr, Int.reduceEq, Int.reduceLT, Int.reduceLE, Nat.reduceSub, Nat.reduceMul, aFieldAddr, aField, aLoad, aStore, aExtract, aBox, aint, rdVar, rdCells, Value.oneCell', splice, Int.reduceNeg, zvar1, chunks, depth, some_map, Nat.reduceBEq, cf_dyn, okU, Try.f75, rf75]) with ⟨h, e⟩ | ⟨j, x, hj, hx, hqx, h, e⟩
  · rw [e, idxOf_none h]
    simp only [R0, RC, zipEnv, Nat.reduceLT, Nat.reduceAdd, Nat.reduceEqDiff, Nat.reduceLeDiff, reduceCtorEq, ↓reduceIte, ares, aresult, pr, Int.reduceEq, Int.reduceLT, Int.reduceLE, Nat.reduceSub, Nat.reduceMul, aFieldAddr, aField, aLoad, aStore, aExtract, aBox, aint, rdVar, rdCells, Value.oneCell', splice, Int.reduceNeg, zvar1, chunks, depth, some_map, Nat.reduceBEq, cf_dyn, okU, Try.f75, rf75]
  · rw [e, idxOf_some h]
    simp only [R0, RC, zipEnv, Nat.reduceLT, Nat.reduceAdd, Nat.reduceEqDiff, Nat.reduceLeDiff, reduceCtorEq, ↓reduceIte, ares, aresult, pr, Int.reduceEq, Int.reduceLT, Int.reduceLE, Nat.reduceSub, Nat.reduceMul, aFieldAddr, aField, aLoad, aStore, aExtract, aBox, aint, rdVar, rdCells, Value.oneCell', splice, Int.reduceNeg, zvar1, chunks, depth, some_map, Nat.reduceBEq, cf_dyn, okU, Try.f75, rf75, hj, hx, hw j hj, hc x (List.mem_of_getElem? hx), hqx]
theorem conI_gen {H : List Blk} {g : FuncId} {caps : List AV} (L : List Nat) (q : Nat → Bool) (hl : L.length ≤ 100000) (k : Nat) (hk : 100006 ≤ k)
    (hc : ∀ i ∈ L, ∀ strict, callR Try.prog (acall cf.mode strict (arun Try.prog cf (k - 2))) H (.fn g caps) [.sc (.int .i64 (i : Nat))] = some (.sc (.bool (q i)), H)) :
    arun Try.prog cf k 45 [mkL 1 (nRows L), .fn g caps] H = some (.sc (.bool (L.any q)), H) := by
  obtain ⟨k, rfl⟩ : ∃ j, k = j + 1 := ⟨k - 1, by omega⟩
  have h := idxI_gen (H := H) (g := g) (caps := caps) L q hl k (by omega) hc
  rw [arun_body rfl rfl Try.func45 rfl (N := 9) rfl]
  simp only [R0, RC, zipEnv, Nat.reduceLT, Nat.reduceAdd, Nat.reduceEqDiff, Nat.reduceLeDiff, reduceCtorEq, ↓reduceIte, ares, aresult, pr, Int.reduceEq, Int.reduceLT, Int.reduceLE, Nat.reduceSub, Nat.reduceMul, aFieldAddr, aField, aLoad, aStore, aExtract, aBox, aint, rdVar, rdCells, Value.oneCell', splice, Int.reduceNeg, zvar1, chunks, depth, some_map, Nat.reduceBEq, cf_dyn, okU, Try.f45, rf45, h, idx_any]
theorem idxO_gen {H : List Blk} {g : FuncId} {caps : List AV} {b ver : Nat} (L : List Nat) (hb : H[b]? = some ⟨3, 1, ver, true, (nRows L).flatten, .cells⟩) (q : Nat → Bool) (hl : L.length ≤ 100000) (k : Nat) (hk : 100005 ≤ k)
    (hc : ∀ i ∈ L, ∀ strict, callR Try.prog (acall cf.mode strict (arun Try.prog cf (k - 1))) H (.fn g caps) [.sc (.int .i64 (i : Nat))] = some (.sc (.bool (q i)), H)) :
    arun Try.prog cf k 75 [.own b 0 L.length 1 ver, .fn g caps] H = some (.sc (.int .i64 (idxOf L q)), H) := by
  obtain ⟨k, rfl⟩ : ∃ j, k = j + 1 := ⟨k - 1, by omega⟩
  rw [Nat.add_sub_cancel] at hc
  rw [arun_body rfl rfl Try.func75 rfl (N := 19) rfl]
  have hw := wraps (n := L.length) (by omega)
  have hfl : (nRows L).flatten = L.map fun i => AV.sc (.int .i64 (i : Nat)) := by
    unfold nRows
    rw [show (L.map fun i => [AV.sc (Value.int IntKind.i64 (i : Nat))]) = (L.map fun i => AV.sc (Value.int IntKind.i64 (i : Nat))).map (fun v => [v]) by rw [List.map_map]; rfl, flat_one]
  have hat : ∀ j x, L[j]? = some x → (nRows L).flatten[j]? = some (AV.sc (Value.int IntKind.i64 (x : Nat))) := fun j x hx => by
    rw [hfl, List.getElem?_map, hx]
    rfl
  simp only [R0, RC, zipEnv, Nat.reduceLT, Nat.reduceAdd, Nat.reduceEqDiff, Nat.reduceLeDiff, reduceCtorEq, ↓reduceIte, ares, aresult, pr, Int.reduceEq, Int.reduceLT, Int.reduceLE, Nat.reduceSub, Nat.reduceMul, aFieldAddr, aField, aLoad, aStore, aExtract, aBox, aint, rdVar, rdCells, Value.oneCell', splice, Int.reduceNeg, zvar1, chunks, depth, some_map, Nat.reduceBEq, cf_dyn, okU, Try.f75, rf75]
  generalize hA : aloop _ _ _ _ _ _ _ _ _ _ _ = A
  rcases aloop_list hA [0, 1, 7, 8] (fun j => ⟨[(0, .own b 0 L.length 1 ver), (1, .fn g caps), (7, .sc (.int .i64 L.length)), (8, .sc (.int .i64 (j : Nat)))], H⟩) L q (by omega) rfl rfl (fun j x hj hx hqx => by
      simp only [R0, RC, zipEnv, Nat.reduceLT, Nat.reduceAdd, Nat.reduceEqDiff, Nat.reduceLeDiff, reduceCtorEq, ↓reduceIte, ares, aresult, pr, Int.reduceEq, Int.reduceLT, Int.reduceLE, Nat.reduceSub, Nat.reduceMul, aFieldAddr, aField, aLoad, aStore, aExtract, aBox, aint, rdVar, rdCells, Value.oneCell', splice, Int.reduceNeg, zvar1, chunks, depth, some_map, Nat.reduceBEq, cf_dyn, okU, Try.f75, rf75, hj, hx, hw j hj, hb, hat j x hx, hc x (List.mem_of_getElem? hx), hqx]) (fun j x hj hx hqx => by
      simp only [R0, RC, zipEnv, Nat.reduceLT, Nat.reduceAdd, Nat.reduceEqDiff, Nat.reduceLeDiff, reduceCtorEq, ↓reduceIte, ares, aresult, pr, Int.reduceEq, Int.reduceLT, Int.reduceLE, Nat.reduceSub, Nat.reduceMul, aFieldAddr, aField, aLoad, aStore, aExtract, aBox, aint, rdVar, rdCells, Value.oneCell', splice, Int.reduceNeg, zvar1, chunks, depth, some_map, Nat.reduceBEq, cf_dyn, okU, Try.f75, rf75, hj, hx, hw j hj, hb, hat j x hx, hc x (List.mem_of_getElem? hx), hqx]) (by simp only [R0, RC, zipEnv, Nat.reduceLT, Nat.reduceAdd, Nat.reduceEqDiff, Nat.reduceLeDiff, reduceCtorEq, ↓reduceIte, ares, aresult, pr, Int.reduceEq, Int.reduceLT, Int.reduceLE, Nat.reduceSub, Nat.reduceMul, aFieldAddr, aField, aLoad, aStore, aExtract, aBox, aint, rdVar, rdCells, Value.oneCell', splice, Int.reduceNeg, zvar1, chunks, depth, some_map, Nat.reduceBEq, cf_dyn, okU, Try.f75, rf75]) with ⟨h, e⟩ | ⟨j, x, hj, hx, hqx, h, e⟩
  · rw [e, idxOf_none h]
    simp only [R0, RC, zipEnv, Nat.reduceLT, Nat.reduceAdd, Nat.reduceEqDiff, Nat.reduceLeDiff, reduceCtorEq, ↓reduceIte, ares, aresult, pr, Int.reduceEq, Int.reduceLT, Int.reduceLE, Nat.reduceSub, Nat.reduceMul, aFieldAddr, aField, aLoad, aStore, aExtract, aBox, aint, rdVar, rdCells, Value.oneCell', splice, Int.reduceNeg, zvar1, chunks, depth, some_map, Nat.reduceBEq, cf_dyn, okU, Try.f75, rf75]
  · rw [e, idxOf_some h]
    simp only [R0, RC, zipEnv, Nat.reduceLT, Nat.reduceAdd, Nat.reduceEqDiff, Nat.reduceLeDiff, reduceCtorEq, ↓reduceIte, ares, aresult, pr, Int.reduceEq, Int.reduceLT, Int.reduceLE, Nat.reduceSub, Nat.reduceMul, aFieldAddr, aField, aLoad, aStore, aExtract, aBox, aint, rdVar, rdCells, Value.oneCell', splice, Int.reduceNeg, zvar1, chunks, depth, some_map, Nat.reduceBEq, cf_dyn, okU, Try.f75, rf75, hj, hx, hw j hj, hb, hat j x hx, hc x (List.mem_of_getElem? hx), hqx]
theorem conO_gen {H : List Blk} {g : FuncId} {caps : List AV} {b ver : Nat} (L : List Nat) (hb : H[b]? = some ⟨3, 1, ver, true, (nRows L).flatten, .cells⟩) (q : Nat → Bool) (hl : L.length ≤ 100000) (k : Nat) (hk : 100006 ≤ k)
    (hc : ∀ i ∈ L, ∀ strict, callR Try.prog (acall cf.mode strict (arun Try.prog cf (k - 2))) H (.fn g caps) [.sc (.int .i64 (i : Nat))] = some (.sc (.bool (q i)), H)) :
    arun Try.prog cf k 45 [.own b 0 L.length 1 ver, .fn g caps] H = some (.sc (.bool (L.any q)), H) := by
  obtain ⟨k, rfl⟩ : ∃ j, k = j + 1 := ⟨k - 1, by omega⟩
  have h := idxO_gen (H := H) (g := g) (caps := caps) L hb q hl k (by omega) hc
  rw [arun_body rfl rfl Try.func45 rfl (N := 9) rfl]
  simp only [R0, RC, zipEnv, Nat.reduceLT, Nat.reduceAdd, Nat.reduceEqDiff, Nat.reduceLeDiff, reduceCtorEq, ↓reduceIte, ares, aresult, pr, Int.reduceEq, Int.reduceLT, Int.reduceLE, Nat.reduceSub, Nat.reduceMul, aFieldAddr, aField, aLoad, aStore, aExtract, aBox, aint, rdVar, rdCells, Value.oneCell', splice, Int.reduceNeg, zvar1, chunks, depth, some_map, Nat.reduceBEq, cf_dyn, okU, Try.f45, rf45, h, idx_any]
section
variable {n m nb : Nat} {G N : List Int} {Ls : List (List Nat)} {E : List (Nat × Nat)} {H : List Blk}
  (h0 : H[0]? = some ⟨3, 1, 0, true, iCells G, .cells⟩) (h1 : H[1]? = some ⟨62, 1, 0, false, [.own 0 0 n 1 0], .cells⟩)
  (h2 : H[2]? = some ⟨69, 1, 0, false, [g9 Ls], .cells⟩)
  (h3 : H[nb]? = some ⟨3, 1, 0, true, iCells N, .cells⟩) (h4 : H[nb + 1]? = some ⟨62, 1, 0, false, [.own nb 0 m 1 0], .cells⟩)
include h0 h1 h3 h4
theorem clo3_run {b c g : Nat} {v : Int} (hb : G[b]? = some (c : Int)) (hbn : b < n) (hc : N[c]? = some v) (hcm : c < m) (k : Nat) :
    arun Try.prog cf (k + 1) 55 [.sc (.int .i64 (b : Nat)), .ptr 1 0 0, .ro [.sc (.int .i64 (g : Nat))], .ptr (nb + 1) 0 0] H = some (.sc (.bool (!decide (c = g) && decide (v < 0))), H) := by
  have hG : (iCells G)[b]? = some (.sc (.int .i64 (c : Nat))) := by
    unfold iCells
    rw [List.getElem?_map, hb]
    rfl
  have hN : (iCells N)[c]? = some (.sc (.int .i64 v)) := by
    unfold iCells
    rw [List.getElem?_map, hc]
    rfl
  rw [arun_body rfl rfl Try.func55 rfl (N := 22) rfl]
  by_cases e : c = g
  · subst e
    simp only [R0, RC, zipEnv, Nat.reduceLT, Nat.reduceAdd, Nat.reduceEqDiff, Nat.reduceLeDiff, reduceCtorEq, ↓reduceIte, ares, aresult, pr, Int.reduceEq, Int.reduceLT, Int.reduceLE, Nat.reduceSub, Nat.reduceMul, aFieldAddr, aField, aLoad, aStore, aExtract, aBox, aint, rdVar, rdCells, Value.oneCell', splice, Int.reduceNeg, zvar1, chunks, depth, some_map, Nat.reduceBEq, cf_dyn, okU, Try.f55, rf55, h0, h1, h3, h4, hG, hN, hbn, hcm]
  · simp only [R0, RC, zipEnv, Nat.reduceLT, Nat.reduceAdd, Nat.reduceEqDiff, Nat.reduceLeDiff, reduceCtorEq, ↓reduceIte, ares, aresult, pr, Int.reduceEq, Int.reduceLT, Int.reduceLE, Nat.reduceSub, Nat.reduceMul, aFieldAddr, aField, aLoad, aStore, aExtract, aBox, aint, rdVar, rdCells, Value.oneCell', splice, Int.reduceNeg, zvar1, chunks, depth, some_map, Nat.reduceBEq, cf_dyn, okU, Try.f55, rf55, h0, h1, h3, h4, hG, hN, hbn, hcm, ieq, e]
def waits (E : List (Nat × Nat)) (G N : List Int) (g a : Nat) : Bool := (adjN E a).any fun b => !decide (G[b]? = some (g : Int)) && decide (N[(G.getD b 0).toNat]?.getD 0 < 0)
structure GOk (n m : Nat) (G N : List Int) : Prop where
  lG : G.length = n
  lN : N.length = m
  at_ : ∀ b, b < n → ∃ c : Nat, G[b]? = some (c : Int) ∧ c < m
theorem clo2_run (ok : GOk n m G N) (hE : ∀ x ∈ E, x.1 < n ∧ x.2 < n) (hn : n ≤ 1000) (hl : ∀ a, (adjN E a).length ≤ 100000) {a g : Nat} (ha : a < n) (k : Nat) (hk : 100010 ≤ k) :
    arun Try.prog cf k 54 [.sc (.int .i64 (a : Nat)), .ro [mkL 1 ((List.range n).map fun i => [mkL 1 (nRows (adjN E i))])], .ptr 1 0 0, .ro [.sc (.int .i64 (g : Nat))], .ptr (nb + 1) 0 0] H = some (.sc (.bool (waits E G N g a)), H) := by
  obtain ⟨k, rfl⟩ : ∃ j, k = j + 1 := ⟨k - 1, by omega⟩
  have hcon := conI_gen (H := H) (g := 55) (caps := [.ptr 1 0 0, .ro [.sc (.int .i64 (g : Nat))], .ptr (nb + 1) 0 0]) (adjN E a) (fun b => !decide (G[b]? = some (g : Int)) && decide (N[(G.getD b 0).toNat]?.getD 0 < 0)) (hl a) k (by omega) (fun b hb strict => by
    have hbn := adjN_lt hE a b hb
    obtain ⟨c, hc, hcm⟩ := ok.at_ b hbn
    have hcN : N[c]? = some (N[c]'(by rw [ok.lN]; exact hcm)) := List.getElem?_eq_getElem _
    obtain ⟨k2, hk2⟩ : ∃ j, k - 2 = j + 1 := ⟨k - 3, by omega⟩
    have hr := clo3_run h0 h1 h3 h4 (g := g) hc hbn hcN hcm k2
    rw [hk2, cl55]
    have e1 : decide (G[b]? = some (g : Int)) = decide (c = g) := by
      rw [hc]
      simp only [Option.some.injEq, ieq]
    have e2 : N[(G.getD b 0).toNat]?.getD 0 = N[c]'(by rw [ok.lN]; exact hcm) := by
      rw [List.getD_eq_getElem?_getD, hc]
      simp only [Option.getD_some, Int.toNat_natCast]
      rw [hcN]
      rfl
    rw [e1, e2]
    simpa only [List.cons_append, List.nil_append] using hr)
  unfold waits
  have hr : ((List.range n).map fun i => [mkL 1 (nRows (adjN E i))])[a]? = some [mkL 1 (nRows (adjN E a))] := by
    rw [List.getElem?_map, List.getElem?_range ha]
    rfl
  rw [arun_body rfl rfl Try.func54 rfl (N := 13) rfl]
  simp only [R0, RC, zipEnv, Nat.reduceLT, Nat.reduceAdd, Nat.reduceEqDiff, Nat.reduceLeDiff, reduceCtorEq, ↓reduceIte, ares, aresult, pr, Int.reduceEq, Int.reduceLT, Int.reduceLE, Nat.reduceSub, Nat.reduceMul, aFieldAddr, aField, aLoad, aStore, aExtract, aBox, aint, rdVar, rdCells, Value.oneCell', splice, Int.reduceNeg, zvar1, chunks, depth, some_map, Nat.reduceBEq, cf_dyn, okU, Try.f54, rf54, hr, hcon]
def freeG (E : List (Nat × Nat)) (G N : List Int) (Ls : List (List Nat)) (g : Nat) : Bool := decide (N[g]?.getD 0 < 0) && !(Ls[g]?.getD []).any (waits E G N g)
include h2 in
theorem clo1_run (ok : GOk n m G N) (hE : ∀ x ∈ E, x.1 < n ∧ x.2 < n) (hn : n ≤ 1000) (hl : ∀ a, (adjN E a).length ≤ 100000) {g : Nat} {l : List Nat} (hg : Ls[g]? = some l) (hgm : g < m) (hll : l.length ≤ 1000) (hln : ∀ a ∈ l, a < n)
    (h5 : H[5]? = some ⟨62, 1, Ls.length - 1, true, gV Ls, .cells⟩) (h6 : H[gB g]? = some (lb l)) (k : Nat) (hk : 200010 ≤ k) :
    arun Try.prog cf k 53 [.sc (.int .i64 (g : Nat)), .ptr (nb + 1) 0 0, .ptr 2 0 0, .ro [mkL 1 ((List.range n).map fun i => [mkL 1 (nRows (adjN E i))])], .ptr 1 0 0] H = some (.sc (.bool (freeG E G N Ls g)), H) := by
  obtain ⟨k, rfl⟩ : ∃ j, k = j + 1 := ⟨k - 1, by omega⟩
  have hNg : N[g]? = some (N[g]'(by rw [ok.lN]; exact hgm)) := List.getElem?_eq_getElem _
  have hcon := conO_gen (H := H) (g := 54) (caps := [.ro [mkL 1 ((List.range n).map fun i => [mkL 1 (nRows (adjN E i))])], .ptr 1 0 0, .ro [.sc (.int .i64 (g : Nat))], .ptr (nb + 1) 0 0]) (b := gB g) (ver := l.length - 1) l h6 (waits E G N g) (by omega) k (by omega) (fun a ha strict => by
    have hr := clo2_run h0 h1 h3 h4 ok hE hn hl (g := g) (hln a ha) (k - 2) (by omega)
    rw [cl54]
    simpa only [List.cons_append, List.nil_append] using hr)
  have hgl : g < Ls.length := (List.getElem?_eq_some_iff.1 hg).1
  have hne : Ls ≠ [] := by rintro rfl; simp at hgl
  have e9 : g9 Ls = .own 5 0 Ls.length 1 (Ls.length - 1) := by unfold g9; rw [if_neg hne]
  rw [e9] at h2
  have hv : (gV Ls)[g]? = some (.own (gB g) 0 l.length 1 (l.length - 1)) := by
    unfold gV
    rw [List.getElem?_mapIdx, hg]
    rfl
  have hN : (iCells N)[g]? = some (.sc (.int .i64 (N[g]'(by rw [ok.lN]; exact hgm)))) := iCells_get _
  unfold freeG
  rw [hNg, hg]
  simp only [Option.getD_some]
  rw [arun_body rfl rfl Try.func53 rfl (N := 21) rfl]
  by_cases hp : N[g]'(by rw [ok.lN]; exact hgm) < 0
  · simp only [R0, RC, zipEnv, Nat.reduceLT, Nat.reduceAdd, Nat.reduceEqDiff, Nat.reduceLeDiff, reduceCtorEq, ↓reduceIte, ares, aresult, pr, Int.reduceEq, Int.reduceLT, Int.reduceLE, Nat.reduceSub, Nat.reduceMul, aFieldAddr, aField, aLoad, aStore, aExtract, aBox, aint, rdVar, rdCells, Value.oneCell', splice, Int.reduceNeg, zvar1, chunks, depth, some_map, Nat.reduceBEq, cf_dyn, okU, Try.f53, rf53, h0, h1, h2, h3, h4, h5, hgm, hgl, hN, hv, hcon, hp]
  · simp only [R0, RC, zipEnv, Nat.reduceLT, Nat.reduceAdd, Nat.reduceEqDiff, Nat.reduceLeDiff, reduceCtorEq, ↓reduceIte, ares, aresult, pr, Int.reduceEq, Int.reduceLT, Int.reduceLE, Nat.reduceSub, Nat.reduceMul, aFieldAddr, aField, aLoad, aStore, aExtract, aBox, aint, rdVar, rdCells, Value.oneCell', splice, Int.reduceNeg, zvar1, chunks, depth, some_map, Nat.reduceBEq, cf_dyn, okU, Try.f53, rf53, h0, h1, h2, h3, h4, h5, hgm, hgl, hN, hv, hcon, hp]
end
theorem gR_at : ∀ (i : Nat) (Ls : List (List Nat)) (j : Nat) (l : List Nat), Ls[j]? = some l → (gR i Ls)[2 * j]? = some (lb l)
  | i, x :: Ls, 0, l, h => by
    cases h
    rfl
  | i, x :: Ls, j + 1, l, h => by
    have := gR_at (i + 1) Ls j l h
    unfold gR
    rw [show 2 * (j + 1) = 2 * j + 1 + 1 by omega]
    exact this
theorem gT_at {Ls : List (List Nat)} {g : Nat} {l : List Nat} (h : Ls[g]? = some l) : (gT Ls)[gB g - 3]? = some (lb l) ∧ 3 ≤ gB g ∧ gB g - 3 < (gT Ls).length := by
  have key : (gT Ls)[gB g - 3]? = some (lb l) := by
    cases Ls with
    | nil => cases h
    | cons l0 Ls =>
      cases g with
      | zero => cases h; rfl
      | succ g =>
        have := gR_at 1 Ls g l h
        have e : gB (g + 1) - 3 = 2 * g + 1 + 1 + 1 := by unfold gB; rw [if_neg (by omega)]; omega
        rw [e]
        exact this
  refine ⟨key, ?_, (List.getElem?_eq_some_iff.1 key).1⟩
  unfold gB
  split <;> omega
theorem gT_two {Ls : List (List Nat)} (h : Ls ≠ []) : (gT Ls)[2]? = some ⟨62, 1, Ls.length - 1, true, gV Ls, .cells⟩ := by
  cases Ls with
  | nil => exact absurd rfl h
  | cons l Ls => rfl
end Go.Proofs.YtigfnhbbfbnicaaA

namespace Go.Proofs.YtigfnhbbfbnicaaA
open Go Go.RowKit
set_option linter.all false
set_option linter.unusedSectionVars false
set_option linter.constructorNameAsVariable false
set_option linter.unusedVariables false
set_option linter.unusedSimpArgs false
theorem adjN_mem {E : List (Nat × Nat)} {i c : Nat} : c ∈ adjN E i ↔ (i, c) ∈ E := by
  unfold adjN
  simp only [List.mem_map, List.mem_filter, decide_eq_true_eq]
  constructor
  · rintro ⟨⟨a, b⟩, ⟨h1, h2⟩, h3⟩
    simp only at h2 h3
    subst h2 h3
    exact h1
  · exact fun h => ⟨(i, c), ⟨h, rfl⟩, rfl⟩
theorem swE_mem {E : List (Nat × Nat)} {a b : Nat} : (a, b) ∈ swE E ↔ (b, a) ∈ E := by
  unfold swE
  simp only [List.mem_map, Prod.mk.injEq]
  constructor
  · rintro ⟨⟨x, y⟩, h, h1, h2⟩
    simp only at h1 h2
    subst h1 h2
    exact h
  · exact fun h => ⟨(b, a), h, rfl, rfl⟩
theorem Rch.trans {A : Nat → List Nat} {a b c : Nat} (h : Rch A a b) (h2 : Rch A b c) : Rch A a c := by
  induction h2 with
  | refl => exact h
  | step _ hc ih => exact .step ih hc
theorem Rch.one {A : Nat → List Nat} {a b : Nat} (h : b ∈ A a) : Rch A a b := .step .refl h
theorem Rch_sw1 {E : List (Nat × Nat)} {a b : Nat} (h : Rch (adjN (swE E)) a b) : Rch (adjN E) b a := by
  induction h with
  | refl => exact .refl
  | step _ hc ih => exact Rch.trans (.one (adjN_mem.2 (swE_mem.1 (adjN_mem.1 hc)))) ih
theorem Rch_sw2 {E : List (Nat × Nat)} {a b : Nat} (h : Rch (adjN E) b a) : Rch (adjN (swE E)) a b := by
  induction h with
  | refl => exact .refl
  | step _ hc ih => exact Rch.trans (.one (adjN_mem.2 (swE_mem.2 (adjN_mem.1 hc)))) ih
def Mu (E : List (Nat × Nat)) (a b : Nat) : Prop := Rch (adjN E) a b ∧ Rch (adjN E) b a
theorem Mu.refl {E : List (Nat × Nat)} {a : Nat} : Mu E a a := ⟨.refl, .refl⟩
theorem Mu.symm {E : List (Nat × Nat)} {a b : Nat} (h : Mu E a b) : Mu E b a := ⟨h.2, h.1⟩
theorem Mu.trans {E : List (Nat × Nat)} {a b c : Nat} (h : Mu E a b) (h2 : Mu E b c) : Mu E a c := ⟨h.1.trans h2.1, h2.2.trans h.2⟩
theorem mutL_mem {n i k : Nat} {E : List (Nat × Nat)} : k ∈ mutL n E i ↔ k < n ∧ Mu E i k := by
  classical
  unfold mutL
  simp only [List.mem_filter, List.mem_range, Bool.and_eq_true, decide_eq_true_eq]
  exact ⟨fun ⟨h1, h2, h3⟩ => ⟨h1, h2, Rch_sw1 h3⟩, fun ⟨h1, h2⟩ => ⟨h1, h2.1, Rch_sw2 h2.2⟩⟩
theorem mutL_eq {n i k : Nat} {E : List (Nat × Nat)} (h : Mu E i k) : mutL n E i = mutL n E k := by
  classical
  have e : ∀ a, mutL n E a = (List.range n).filter fun x => decide (Mu E a x) := fun a => by
    unfold mutL
    congr 1
    funext x
    rw [Bool.eq_iff_iff]
    simp only [Bool.and_eq_true, decide_eq_true_eq]
    exact ⟨fun ⟨h2, h3⟩ => ⟨h2, Rch_sw1 h3⟩, fun h2 => ⟨h2.1, Rch_sw2 h2.2⟩⟩
  rw [e, e]
  congr 1
  funext x
  rw [Bool.eq_iff_iff]
  simp only [decide_eq_true_eq]
  exact ⟨fun h2 => h.symm.trans h2, fun h2 => h.trans h2⟩
theorem markG_get {m : Int} {k : Nat} : ∀ (l : List Nat) (G : List Int), k < G.length → (markG G l m)[k]? = if k ∈ l then some m else G[k]?
  | [], G, _ => by simp [markG]
  | x :: l, G, h => by
    have ih := markG_get (m := m) (k := k) l (G.set x m) (by simpa using h)
    have e : markG G (x :: l) m = markG (G.set x m) l m := rfl
    rw [e, ih, List.getElem?_set]
    by_cases h1 : k ∈ l
    · rw [if_pos h1, if_pos (List.mem_cons_of_mem _ h1)]
    · rw [if_neg h1]
      by_cases h2 : x = k
      · subst h2
        rw [if_pos rfl, if_pos h, if_pos (List.mem_cons_self ..)]
      · rw [if_neg h2, if_neg (fun h3 => (List.mem_cons.1 h3).elim (fun h4 => h2 h4.symm) h1)]
structure GInv (n : Nat) (E : List (Nat × Nat)) (j : Nat) (s : List Int × List (List Nat)) : Prop where
  lG : s.1.length = n
  at_ : ∀ k, k < n → s.1[k]? = some (-1) ∨ ∃ g : Nat, s.1[k]? = some (g : Int) ∧ s.2[g]? = some (mutL n E k)
  cls : ∀ k k', k < n → k' < n → Mu E k k' → s.1[k]? = s.1[k']?
  all_ : ∀ k, k < j → k < n → s.1[k]? ≠ some (-1)
  grp : ∀ (g : Nat) l, s.2[g]? = some l → ∃ i, i < n ∧ s.1[i]? = some (g : Int) ∧ l = mutL n E i
theorem GInv.step {n j : Nat} {E : List (Nat × Nat)} {s : List Int × List (List Nat)} (h : GInv n E j s) (hj : j < n) : GInv n E (j + 1) (grpS n E s j) := by
  obtain ⟨G, Ls⟩ := s
  obtain ⟨lG, at_, cls, all_, grp⟩ := h
  simp only at lG at_ cls all_ grp
  unfold grpS
  simp only
  rw [List.getD_eq_getElem?_getD]
  rcases at_ j hj with hm | ⟨g, hg, hL⟩
  · rw [hm, if_neg (by simp)]
    have hget : ∀ k, k < n → (markG G (mutL n E j) Ls.length)[k]? = if k ∈ mutL n E j then some (Ls.length : Int) else G[k]? := fun k hk => markG_get _ _ (by omega)
    have hneg : ∀ k, k ∈ mutL n E j → G[k]? = some (-1) := fun k hk => by
      obtain ⟨hk1, hk2⟩ := mutL_mem.1 hk
      rw [← cls j k hj hk1 hk2, hm]
    refine ⟨by rw [markG_len]; exact lG, fun k hk => ?_, fun k k' hk hk' hM => ?_, fun k hk hkn => ?_, fun g l hgl => ?_⟩
    · rw [hget k hk]
      by_cases hm2 : k ∈ mutL n E j
      · rw [if_pos hm2]
        refine .inr ⟨Ls.length, rfl, ?_⟩
        rw [List.getElem?_concat_length, mutL_eq (mutL_mem.1 hm2).2]
      · rw [if_neg hm2]
        rcases at_ k hk with h1 | ⟨g, h1, h2⟩
        · exact .inl h1
        · exact .inr ⟨g, h1, by rw [List.getElem?_append_left (List.getElem?_eq_some_iff.1 h2).1]; exact h2⟩
    · rw [hget k hk, hget k' hk']
      by_cases hm2 : k ∈ mutL n E j
      · rw [if_pos hm2, if_pos (mutL_mem.2 ⟨hk', (mutL_mem.1 hm2).2.trans hM⟩)]
      · rw [if_neg hm2, if_neg (fun h2 => hm2 (mutL_mem.2 ⟨hk, (mutL_mem.1 h2).2.trans hM.symm⟩))]
        exact cls k k' hk hk' hM
    · rw [hget k hkn]
      by_cases hm2 : k ∈ mutL n E j
      · rw [if_pos hm2]
        intro e
        have := Option.some.inj e
        omega
      · rw [if_neg hm2]
        by_cases hkj : k = j
        · subst hkj
          exact absurd (mutL_mem.2 ⟨hj, .refl⟩) hm2
        · exact all_ k (by omega) hkn
    · rcases Nat.lt_or_ge g Ls.length with h1 | h1
      · simp only at hgl
        rw [List.getElem?_append_left h1] at hgl
        obtain ⟨i, hi, h2, h3⟩ := grp g l hgl
        refine ⟨i, hi, ?_, h3⟩
        simp only
        rw [hget i hi, if_neg (fun hc => by rw [hneg i hc] at h2; have := Option.some.inj h2; omega)]
        exact h2
      · simp only at hgl
        have hlt := (List.getElem?_eq_some_iff.1 hgl).1
        rw [List.length_append, List.length_singleton] at hlt
        obtain rfl : g = Ls.length := by omega
        rw [List.getElem?_concat_length] at hgl
        obtain rfl := Option.some.inj hgl
        refine ⟨j, hj, ?_, rfl⟩
        simp only
        rw [hget j hj, if_pos (mutL_mem.2 ⟨hj, .refl⟩)]
  · rw [hg, if_pos (by simp)]
    refine ⟨lG, at_, cls, fun k hk hkn => ?_, grp⟩
    by_cases hkj : k = j
    · subst hkj
      simp only
      rw [hg]
      intro e
      have := Option.some.inj e
      omega
    · exact all_ k (by omega) hkn
theorem GInv.fold {n : Nat} {E : List (Nat × Nat)} : ∀ j, j ≤ n → GInv n E j ((List.range j).foldl (grpS n E) (List.replicate n (-1), []))
  | 0, _ => ⟨by simp, fun k hk => .inl (by rw [List.range_zero, List.foldl_nil, List.getElem?_replicate, if_pos hk]), fun k k' hk hk' _ => by simp only [List.range_zero, List.foldl_nil, List.getElem?_replicate, hk, hk'], fun k hk => by omega, fun g l h => by simp at h⟩
  | j + 1, h => by
    rw [List.range_succ, List.foldl_append]
    exact (GInv.fold j (by omega)).step (by omega)
structure GFin (n : Nat) (E : List (Nat × Nat)) (G : List Int) (Ls : List (List Nat)) : Prop where
  lG : G.length = n
  at_ : ∀ k, k < n → ∃ g : Nat, G[k]? = some (g : Int) ∧ Ls[g]? = some (mutL n E k)
  cls : ∀ k k', k < n → k' < n → Mu E k k' → G[k]? = G[k']?
  grp : ∀ (g : Nat) l, Ls[g]? = some l → ∃ i, i < n ∧ G[i]? = some (g : Int) ∧ l = mutL n E i
theorem GFin.of {n : Nat} {E : List (Nat × Nat)} {G : List Int} {Ls : List (List Nat)} (h : (G, Ls) = (List.range n).foldl (grpS n E) (List.replicate n (-1), [])) : GFin n E G Ls := by
  have hi := GInv.fold (E := E) n (Nat.le_refl n)
  rw [← h] at hi
  refine ⟨hi.lG, fun k hk => ?_, hi.cls, hi.grp⟩
  rcases hi.at_ k hk with h1 | h1
  · exact absurd h1 (hi.all_ k hk hk)
  · exact h1
theorem GFin.same {n : Nat} {E : List (Nat × Nat)} {G : List Int} {Ls : List (List Nat)} (h : GFin n E G Ls) {k k' : Nat} (hk : k < n) (hk' : k' < n) : G[k]? = G[k']? ↔ Mu E k k' := by
  refine ⟨fun e => ?_, h.cls k k' hk hk'⟩
  obtain ⟨g, h1, h2⟩ := h.at_ k hk
  obtain ⟨g', h3, h4⟩ := h.at_ k' hk'
  rw [h1, h3] at e
  have e := Option.some.inj e
  obtain rfl : g = g' := by omega
  rw [h2] at h4
  have e2 := Option.some.inj h4
  have hm : k ∈ mutL n E k' := by rw [← e2]; exact mutL_mem.2 ⟨hk, .refl⟩
  exact (mutL_mem.1 hm).2.symm
open Classical in
noncomputable def rnk (n : Nat) (E : List (Nat × Nat)) (i : Nat) : Nat := (List.range n).countP fun k => decide (Rch (adjN E) i k)
theorem countP_lt {α : Type} {p q : α → Bool} : ∀ {l : List α} {a : α}, a ∈ l → p a = false → q a = true → (∀ x ∈ l, p x = true → q x = true) → l.countP p < l.countP q
  | x :: l, a, ha, h1, h2, h3 => by
    have hle : l.countP p ≤ l.countP q := List.countP_mono_left fun y hy => h3 y (List.mem_cons_of_mem _ hy)
    rw [List.countP_cons, List.countP_cons]
    rcases List.mem_cons.1 ha with rfl | ha'
    · rw [h1, h2]
      simp only [Bool.false_eq_true, if_false, if_true]
      omega
    · have := countP_lt ha' h1 h2 fun y hy => h3 y (List.mem_cons_of_mem _ hy)
      have h4 := h3 x (List.mem_cons_self ..)
      cases hp : p x with
      | false => simp only [Bool.false_eq_true, if_false]; split <;> omega
      | true => rw [h4 hp]; simp only [if_true]; omega
theorem rnk_lt {n : Nat} {E : List (Nat × Nat)} {i b : Nat} (hi : i < n) (h : Rch (adjN E) i b) (hn : ¬ Rch (adjN E) b i) : rnk n E b < rnk n E i := by
  classical
  unfold rnk
  exact countP_lt (a := i) (List.mem_range.2 hi) (by simpa using hn) (by simpa using Rch.refl) fun x _ hx => by
    simp only [decide_eq_true_eq] at hx ⊢
    exact h.trans hx
theorem free_some {n : Nat} {E : List (Nat × Nat)} {G N : List Int} {Ls : List (List Nat)} (h : GFin n E G Ls) (hE : ∀ x ∈ E, x.1 < n ∧ x.2 < n) : ∀ (r i g : Nat), i < n → G[i]? = some (g : Int) → N[g]?.getD 0 < 0 → rnk n E i ≤ r → ∃ g', g' < Ls.length ∧ freeG E G N Ls g' = true := by
  intro r
  induction r with
  | zero =>
    intro i g hi _ _ hr
    exfalso
    classical
    have : 0 < rnk n E i := by
      unfold rnk
      rw [List.countP_pos_iff]
      exact ⟨i, List.mem_range.2 hi, by simpa using Rch.refl⟩
    omega
  | succ r ih =>
    intro i g hi hg hN hr
    obtain ⟨g0, hg0, hLs⟩ := h.at_ i hi
    rw [hg] at hg0
    obtain rfl : g = g0 := by have := Option.some.inj hg0; omega
    by_cases hf : freeG E G N Ls g = true
    · exact ⟨g, (List.getElem?_eq_some_iff.1 hLs).1, hf⟩
    · unfold freeG at hf
      rw [hLs] at hf
      simp only [Option.getD_some, hN, decide_true, Bool.true_and, Bool.not_eq_true', Bool.not_eq_false, List.any_eq_true] at hf
      obtain ⟨a, ha, hw⟩ := hf
      unfold waits at hw
      rw [List.any_eq_true] at hw
      obtain ⟨b, hb, hw⟩ := hw
      simp only [Bool.and_eq_true, Bool.not_eq_true', decide_eq_false_iff_not, decide_eq_true_eq] at hw
      obtain ⟨hne, hneg⟩ := hw
      have hbn := adjN_lt hE a b hb
      obtain ⟨g', hg', hL'⟩ := h.at_ b hbn
      rw [List.getD_eq_getElem?_getD, hg'] at hneg
      have hib : Rch (adjN E) i b := (mutL_mem.1 ha).2.1.trans (.one hb)
      have hnb : ¬ Rch (adjN E) b i := fun hbi => hne (by rw [← hg]; exact ((h.same hi hbn).2 ⟨hib, hbi⟩).symm)
      have := rnk_lt hi hib hnb
      exact ih b g' hbn hg' (by simpa using hneg) (by omega)
end Go.Proofs.YtigfnhbbfbnicaaA

namespace Go.Proofs.YtigfnhbbfbnicaaA
open Go Go.RowKit
set_option linter.all false
set_option linter.unusedSectionVars false
set_option linter.constructorNameAsVariable false
set_option linter.unusedVariables false
set_option linter.unusedSimpArgs false
def NH (n : Nat) (G : List Int) (Ls : List (List Nat)) (N : List Int) : List Blk := ⟨3, 1, 0, true, iCells G, .cells⟩ :: ⟨62, 1, 0, false, [.own 0 0 n 1 0], .cells⟩ :: ⟨69, 1, 0, false, [g9 Ls], .cells⟩ :: (gT Ls ++ [⟨3, 1, 0, true, iCells N, .cells⟩, ⟨62, 1, 0, false, [.own ((gT Ls).length + 1 + 1 + 1) 0 Ls.length 1 0], .cells⟩])
theorem NH_at {n : Nat} {G : List Int} {Ls : List (List Nat)} {N : List Int} : (NH n G Ls N)[(gT Ls).length + 1 + 1 + 1]? = some ⟨3, 1, 0, true, iCells N, .cells⟩ ∧ (NH n G Ls N)[(gT Ls).length + 1 + 1 + 1 + 1]? = some ⟨62, 1, 0, false, [.own ((gT Ls).length + 1 + 1 + 1) 0 Ls.length 1 0], .cells⟩ ∧ ∀ cells, (NH n G Ls N).set ((gT Ls).length + 1 + 1 + 1) ⟨3, 1, 0, true, cells, .cells⟩ = ⟨3, 1, 0, true, iCells G, .cells⟩ :: ⟨62, 1, 0, false, [.own 0 0 n 1 0], .cells⟩ :: ⟨69, 1, 0, false, [g9 Ls], .cells⟩ :: (gT Ls ++ [⟨3, 1, 0, true, cells, .cells⟩, ⟨62, 1, 0, false, [.own ((gT Ls).length + 1 + 1 + 1) 0 Ls.length 1 0], .cells⟩]) := by
  unfold NH
  refine ⟨?_, ?_, fun cells => ?_⟩
  · simp
  · simp only [List.getElem?_cons_succ]
    rw [List.getElem?_append_right (by omega), show (gT Ls).length + 1 - (gT Ls).length = 1 by omega]
    rfl
  · simp
structure SInv (m j : Nat) (N : List Int) : Prop where
  lN : N.length = m
  cnt : N.countP (fun v => decide (v < 0)) + j = m
  val_ : ∀ g : Nat, g < m → N[g]?.getD 0 < 0 ∨ ∃ v : Nat, v < j ∧ N[g]? = some (v : Int)
  inj : ∀ (g g' : Nat) (v : Nat), N[g]? = some (v : Int) → N[g']? = some (v : Int) → g = g'
theorem SInv.zero (m : Nat) : SInv m 0 (List.replicate m (-1)) := by
  refine ⟨by simp, by rw [List.countP_replicate]; simp, fun g hg => .inl (by rw [List.getElem?_replicate, if_pos hg]; decide), fun g g' v h => ?_⟩
  rw [List.getElem?_replicate] at h
  split at h
  · have := Option.some.inj h; omega
  · cases h
theorem SInv.some_neg {m j : Nat} {N : List Int} (h : SInv m j N) (hj : j < m) : ∃ g : Nat, g < m ∧ N[g]?.getD 0 < 0 := by
  have hc := h.cnt
  have hp : 0 < N.countP (fun v => decide (v < 0)) := by omega
  obtain ⟨v, hv, hd⟩ := List.countP_pos_iff.1 hp
  obtain ⟨g, hg⟩ := List.getElem?_of_mem hv
  have hlt := (List.getElem?_eq_some_iff.1 hg).1
  refine ⟨g, by have := h.lN; omega, ?_⟩
  rw [hg]
  simpa using hd
theorem SInv.step {m j g : Nat} {N : List Int} (h : SInv m j N) (hg : g < m) (hN : N[g]?.getD 0 < 0) : SInv m (j + 1) (N.set g (j : Int)) := by
  obtain ⟨lN, cnt, val_, inj⟩ := h
  have hgl : g < N.length := by omega
  rw [List.getElem?_eq_getElem hgl] at hN
  simp only [Option.getD_some] at hN
  have hnone : ∀ g' : Nat, N[g']? ≠ some (j : Int) := fun g' e => by
    have hlt := (List.getElem?_eq_some_iff.1 e).1
    rcases val_ g' (by omega) with h1 | ⟨v, h1, h2⟩
    · rw [e] at h1; simp only [Option.getD_some] at h1; omega
    · rw [e] at h2; have := Option.some.inj h2; omega
  refine ⟨by simpa using lN, ?_, fun x hx => ?_, fun x y v h1 h2 => ?_⟩
  · rw [List.countP_set hgl]
    have hpos : 0 < N.countP (fun v => decide (v < 0)) := List.countP_pos_iff.2 ⟨N[g], List.getElem_mem _, by simpa using hN⟩
    simp only [hN, decide_true, if_true]
    have : ¬ ((j : Int) < 0) := by omega
    simp only [this, decide_false, Bool.false_eq_true, if_false]
    omega
  · rw [List.getElem?_set]
    by_cases e : g = x
    · subst e
      rw [if_pos rfl, if_pos hgl]
      exact .inr ⟨j, by omega, rfl⟩
    · rw [if_neg e]
      rcases val_ x hx with h1 | ⟨v, h1, h2⟩
      · exact .inl h1
      · exact .inr ⟨v, by omega, h2⟩
  · rw [List.getElem?_set] at h1 h2
    by_cases e : g = x <;> by_cases e2 : g = y
    · omega
    · subst e
      rw [if_pos rfl, if_pos hgl] at h1
      rw [if_neg e2] at h2
      rw [← h1] at h2
      exact absurd h2 (hnone y)
    · subst e2
      rw [if_pos rfl, if_pos hgl] at h2
      rw [if_neg e] at h1
      rw [← h2] at h1
      exact absurd h1 (hnone x)
    · rw [if_neg e] at h1
      rw [if_neg e2] at h2
      exact inj x y v h1 h2
theorem NH_rest {n : Nat} {G : List Int} {Ls : List (List Nat)} {N : List Int} (hne : Ls ≠ []) : (NH n G Ls N)[0]? = some ⟨3, 1, 0, true, iCells G, .cells⟩ ∧ (NH n G Ls N)[1]? = some ⟨62, 1, 0, false, [.own 0 0 n 1 0], .cells⟩ ∧ (NH n G Ls N)[2]? = some ⟨69, 1, 0, false, [g9 Ls], .cells⟩ ∧ (NH n G Ls N)[5]? = some ⟨62, 1, Ls.length - 1, true, gV Ls, .cells⟩ ∧ ∀ g l, Ls[g]? = some l → (NH n G Ls N)[gB g]? = some (lb l) := by
  refine ⟨rfl, rfl, rfl, ?_, fun g l h => ?_⟩
  · unfold NH
    simp only [List.getElem?_cons_succ]
    have h2 := gT_two hne
    rw [List.getElem?_append_left (List.getElem?_eq_some_iff.1 h2).1]
    exact h2
  · obtain ⟨h1, h2, h3⟩ := gT_at h
    obtain ⟨b, hb⟩ : ∃ b, gB g = b + 1 + 1 + 1 := ⟨gB g - 3, by omega⟩
    rw [hb] at h1 h3 ⊢
    unfold NH
    simp only [List.getElem?_cons_succ]
    simp only [Nat.add_sub_cancel, show b + 1 + 1 + 1 - 3 = b by omega] at h1 h3
    rw [List.getElem?_append_left h3]
    exact h1
theorem NH_set {n : Nat} {G : List Int} {Ls : List (List Nat)} {N N' : List Int} : (NH n G Ls N).set ((gT Ls).length + 1 + 1 + 1) ⟨3, 1, 0, true, iCells N', .cells⟩ = NH n G Ls N' := (NH_at (N := N)).2.2 (iCells N')
set_option maxHeartbeats 1000000 in
theorem comps_search {n k : Nat} {E : List (Nat × Nat)} (hn : n ≤ 1000) (hl : ∀ a, (adjN E a).length ≤ 100000) (hE : ∀ x ∈ E, x.1 < n ∧ x.2 < n) (hk : 300000 ≤ k) {G : List Int} {Ls : List (List Nat)} (hf : GFin n E G Ls) (hLs : Ls.length ≤ n) {jump : Code → Code → St → Option (AX × St)} {s0 : St} {R : Option (AX × St)}
    (h : aloop Try.prog (acall cf.mode false (arun Try.prog cf k)) (acall cf.mode true (arun Try.prog cf k)) jump (pureOf cf.mode) (cf.dyn 23) (cf.keep 23) 136 k (loopAt Try.f23 33) s0 = R)
    (h0 : pr [0, 7, 9, 15, 17, 100, 101] s0 = ⟨[(0, .sc (.int .i64 (n : Nat))), (7, .ptr 1 0 0), (9, .ptr 2 0 0), (15, .ptr ((gT Ls).length + 1 + 1 + 1 + 1) 0 0), (17, .fn 53 [.ptr ((gT Ls).length + 1 + 1 + 1 + 1) 0 0, .ptr 2 0 0, .ro [mkL 1 ((List.range n).map fun i => [mkL 1 (nRows (adjN E i))])], .ptr 1 0 0]), (100, .sc (.int .i64 Ls.length)), (101, .sc (.int .i64 0))], NH n G Ls (List.replicate Ls.length (-1))⟩) :
    ∃ N, SInv Ls.length Ls.length N ∧ R = some (.exit 8, ⟨[(0, .sc (.int .i64 (n : Nat))), (7, .ptr 1 0 0), (9, .ptr 2 0 0), (15, .ptr ((gT Ls).length + 1 + 1 + 1 + 1) 0 0), (17, .fn 53 [.ptr ((gT Ls).length + 1 + 1 + 1 + 1) 0 0, .ptr 2 0 0, .ro [mkL 1 ((List.range n).map fun i => [mkL 1 (nRows (adjN E i))])], .ptr 1 0 0]), (100, .sc (.int .i64 Ls.length)), (101, .sc (.int .i64 Ls.length)), (102, .sc (.bool false))], NH n G Ls N⟩) := by
  have hw := wraps (n := Ls.length) (by omega)
  have e1 := aloop_inv2 h [0, 7, 9, 15, 17, 100, 101] (fun j s => ∃ N, SInv Ls.length j N ∧ s = ⟨[(0, .sc (.int .i64 (n : Nat))), (7, .ptr 1 0 0), (9, .ptr 2 0 0), (15, .ptr ((gT Ls).length + 1 + 1 + 1 + 1) 0 0), (17, .fn 53 [.ptr ((gT Ls).length + 1 + 1 + 1 + 1) 0 0, .ptr 2 0 0, .ro [mkL 1 ((List.range n).map fun i => [mkL 1 (nRows (adjN E i))])], .ptr 1 0 0]), (100, .sc (.int .i64 Ls.length)), (101, .sc (.int .i64 (j : Nat)))], NH n G Ls N⟩) Ls.length (by omega) rfl ⟨_, SInv.zero _, h0⟩ (fun j hj s ⟨N, hN, hs⟩ => by
      subst hs
      have hne : Ls ≠ [] := by rintro rfl; simp at hj
      obtain ⟨r0, r1, r2, r5, r6⟩ := NH_rest (n := n) (G := G) (N := N) hne
      obtain ⟨n1, n2, _⟩ := NH_at (n := n) (G := G) (Ls := Ls) (N := N)
      have n3 := fun N' => NH_set (n := n) (G := G) (Ls := Ls) (N := N) (N' := N')
      have ok : GOk n Ls.length G N := ⟨hf.lG, hN.lN, fun b hb => by
        obtain ⟨g, h1, h2⟩ := hf.at_ b hb
        exact ⟨g, h1, (List.getElem?_eq_some_iff.1 h2).1⟩⟩
      have hcl : ∀ i, i < Ls.length → arun Try.prog cf k 53 [.sc (.int .i64 (i : Nat)), .ptr ((gT Ls).length + 1 + 1 + 1 + 1) 0 0, .ptr 2 0 0, .ro [mkL 1 ((List.range n).map fun i => [mkL 1 (nRows (adjN E i))])], .ptr 1 0 0] (NH n G Ls N) = some (.sc (.bool (freeG E G N Ls i)), NH n G Ls N) := fun i hi => by
        have hg : Ls[i]? = some Ls[i] := List.getElem?_eq_getElem hi
        obtain ⟨a, ha, _, hm⟩ := hf.grp i _ hg
        refine clo1_run r0 r1 r2 n1 n2 ok hE hn hl hg hi ?_ ?_ r5 (r6 i _ hg) k (by omega)
        · rw [hm]
          unfold mutL
          exact Nat.le_trans (List.length_filter_le _ _) (by simpa using hn)
        · intro x hx
          rw [hm] at hx
          exact (mutL_mem.1 hx).1
      have hg9 := g9_len (Ls := Ls) (NH n G Ls N)
      generalize hH : NH n G Ls N = H at *
      simp only [R0, RC, zipEnv, Nat.reduceLT, Nat.reduceAdd, Nat.reduceEqDiff, Nat.reduceLeDiff, reduceCtorEq, ↓reduceIte, ares, aresult, pr, Int.reduceEq, Int.reduceLT, Int.reduceLE, Nat.reduceSub, Nat.reduceMul, aFieldAddr, aField, aLoad, aStore, aExtract, aBox, aint, rdVar, rdCells, Value.oneCell', splice, Int.reduceNeg, zvar1, chunks, depth, some_map, Nat.reduceBEq, cf_dyn, okU, Try.f23, rf23, loopAt, findLoop, firstId, Option.getD_some, Option.some.injEq, Nat.reduceEqDiff, if_false, if_true, hj, hw j hj, r2, hg9]
      generalize hA : aloop _ _ _ _ _ _ _ _ _ _ _ = A
      rcases aloop_nat hA [0, 7, 9, 15, 17, 18, 100, 101, 105, 106] (fun i => ⟨[(0, .sc (.int .i64 (n : Nat))), (7, .ptr 1 0 0), (9, .ptr 2 0 0), (15, .ptr ((gT Ls).length + 1 + 1 + 1 + 1) 0 0), (17, .fn 53 [.ptr ((gT Ls).length + 1 + 1 + 1 + 1) 0 0, .ptr 2 0 0, .ro [mkL 1 ((List.range n).map fun i => [mkL 1 (nRows (adjN E i))])], .ptr 1 0 0]), (18, .sc (.int .i64 (j : Nat))), (100, .sc (.int .i64 Ls.length)), (101, .sc (.int .i64 (j : Nat))), (105, .sc (.int .i64 Ls.length)), (106, .sc (.int .i64 (i : Nat)))], H⟩) Ls.length (freeG E G N Ls) (by omega) rfl rfl (fun i hi hq => by
          simp only [R0, RC, zipEnv, Nat.reduceLT, Nat.reduceAdd, Nat.reduceEqDiff, Nat.reduceLeDiff, reduceCtorEq, ↓reduceIte, ares, aresult, pr, Int.reduceEq, Int.reduceLT, Int.reduceLE, Nat.reduceSub, Nat.reduceMul, aFieldAddr, aField, aLoad, aStore, aExtract, aBox, aint, rdVar, rdCells, Value.oneCell', splice, Int.reduceNeg, zvar1, chunks, depth, some_map, Nat.reduceBEq, cf_dyn, okU, Try.f23, rf23, hi, hw i hi, hcl i hi, hq]) (fun i hi hq => by
          have hst := iCells_set (l := N) (c := i) (v := (j : Int)) (by have := hN.lN; omega)
          have hle : (i + 1 ≤ (iCells N).length) = True := by rw [iCells_len, hN.lN]; simp; omega
          simp only [R0, RC, zipEnv, Nat.reduceLT, Nat.reduceAdd, Nat.reduceEqDiff, Nat.reduceLeDiff, reduceCtorEq, ↓reduceIte, ares, aresult, pr, Int.reduceEq, Int.reduceLT, Int.reduceLE, Nat.reduceSub, Nat.reduceMul, aFieldAddr, aField, aLoad, aStore, aExtract, aBox, aint, rdVar, rdCells, Value.oneCell', Int.reduceNeg, zvar1, chunks, depth, some_map, Nat.reduceBEq, cf_dyn, okU, Try.f23, rf23, hi, hw i hi, hcl i hi, hq, n1, n2, hst, hle]) (by simp only [R0, RC, zipEnv, Nat.reduceLT, Nat.reduceAdd, Nat.reduceEqDiff, Nat.reduceLeDiff, reduceCtorEq, ↓reduceIte, ares, aresult, pr, Int.reduceEq, Int.reduceLT, Int.reduceLE, Nat.reduceSub, Nat.reduceMul, aFieldAddr, aField, aLoad, aStore, aExtract, aBox, aint, rdVar, rdCells, Value.oneCell', splice, Int.reduceNeg, zvar1, chunks, depth, some_map, Nat.reduceBEq, cf_dyn, okU, Try.f23, rf23]) with ⟨hno, e⟩ | ⟨i, hi, hq, hbef, e⟩
      · exfalso
        obtain ⟨g, hg, hneg⟩ := hN.some_neg hj
        obtain ⟨a, ha, hga, _⟩ := hf.grp g _ (List.getElem?_eq_getElem hg)
        obtain ⟨g', hg', hfr⟩ := free_some hf hE _ a g ha hga hneg (Nat.le_refl _)
        rw [hno g' hg'] at hfr
        cases hfr
      · have hst := iCells_set (l := N) (c := i) (v := (j : Int)) (by have := hN.lN; omega)
        have hle : (i + 1 ≤ (iCells N).length) = True := by rw [iCells_len, hN.lN]; simp; omega
        have hneg : N[i]?.getD 0 < 0 := by
          unfold freeG at hq
          simp only [Bool.and_eq_true, decide_eq_true_eq] at hq
          exact hq.1
        have n4 := n3 (N.set i (j : Int))
        rw [e]
        exact ⟨_, by
          simp only [R0, RC, zipEnv, Nat.reduceLT, Nat.reduceAdd, Nat.reduceEqDiff, Nat.reduceLeDiff, reduceCtorEq, ↓reduceIte, ares, aresult, pr, Int.reduceEq, Int.reduceLT, Int.reduceLE, Nat.reduceSub, Nat.reduceMul, aFieldAddr, aField, aLoad, aStore, aExtract, aBox, aint, rdVar, rdCells, Value.oneCell', Int.reduceNeg, zvar1, chunks, depth, some_map, Nat.reduceBEq, cf_dyn, okU, Try.f23, rf23, hi, hw i hi, hw j hj, hcl i hi, hq, n1, n2, n4, hst, hle], _, hN.step hi hneg, rfl⟩) (fun s ⟨N, hN, hs⟩ => by
      subst hs
      simp only [R0, RC, zipEnv, Nat.reduceLT, Nat.reduceAdd, Nat.reduceEqDiff, Nat.reduceLeDiff, reduceCtorEq, ↓reduceIte, ares, aresult, pr, Int.reduceEq, Int.reduceLT, Int.reduceLE, Nat.reduceSub, Nat.reduceMul, aFieldAddr, aField, aLoad, aStore, aExtract, aBox, aint, rdVar, rdCells, Value.oneCell', splice, Int.reduceNeg, zvar1, chunks, depth, some_map, Nat.reduceBEq, cf_dyn, okU, Try.f23, rf23, loopAt, findLoop, firstId, Option.getD_some, Option.some.injEq, Nat.reduceEqDiff, if_false, if_true])
  obtain ⟨s, ⟨N, hN, hs⟩, e⟩ := e1
  subst hs
  refine ⟨N, hN, ?_⟩
  rw [e]
  simp only [R0, RC, zipEnv, Nat.reduceLT, Nat.reduceAdd, Nat.reduceEqDiff, Nat.reduceLeDiff, reduceCtorEq, ↓reduceIte, ares, aresult, pr, Int.reduceEq, Int.reduceLT, Int.reduceLE, Nat.reduceSub, Nat.reduceMul, aFieldAddr, aField, aLoad, aStore, aExtract, aBox, aint, rdVar, rdCells, Value.oneCell', splice, Int.reduceNeg, zvar1, chunks, depth, some_map, Nat.reduceBEq, cf_dyn, okU, Try.f23, rf23, loopAt, findLoop, firstId, Option.getD_some, Option.some.injEq, Nat.reduceEqDiff, if_false, if_true]
end Go.Proofs.YtigfnhbbfbnicaaA

namespace Go.Proofs.YtigfnhbbfbnicaaA
open Go Go.RowKit
set_option linter.all false
set_option linter.unusedSectionVars false
set_option linter.constructorNameAsVariable false
set_option linter.unusedVariables false
set_option linter.unusedSimpArgs false
def outI (G N : List Int) (i : Nat) : Int := N[(G[i]?.getD 0).toNat]?.getD 0
theorem outI_set {G N : List Int} {n j : Nat} (h : j < n) : ((List.range j).map (outI G N) ++ List.replicate (n - j) 0).set j (outI G N j) = (List.range (j + 1)).map (outI G N) ++ List.replicate (n - (j + 1)) 0 := by
  rw [List.set_append_right _ _ (by simp)]
  have e : n - j = (n - (j + 1)) + 1 := by omega
  rw [e, List.replicate_succ, List.length_map, List.length_range, Nat.sub_self, List.set_cons_zero, List.range_succ, List.map_append, List.append_assoc]
  rfl
theorem rangeMap_some {f : Nat → Nat} {n i v : Nat} (h : ((List.range n).map f)[i]? = some v) : i < n ∧ f i = v := by
  rw [List.getElem?_map] at h
  rcases Nat.lt_or_ge i n with h1 | h1
  · rw [List.getElem?_range h1] at h
    exact ⟨h1, Option.some.inj h⟩
  · rw [List.getElem?_eq_none (by simpa using h1)] at h
    cases h
set_option maxHeartbeats 1000000 in
theorem comps_run (n : Nat) (E : List (Nat × Nat)) (hn : n ≤ 1000) (hn0 : 0 < n) (hl : E.length ≤ 100000) (hE : ∀ x ∈ E, x.1 < n ∧ x.2 < n) (k : Nat) (hk : 300000 ≤ k) :
    ∃ O : List Nat, O.length = n ∧ (∀ (i : Nat) v, O[i]? = some v → v < n) ∧ (∀ (i j : Nat) v w, O[i]? = some v → O[j]? = some w → (v = w ↔ Mu E i j)) ∧ ∃ H v, arun Try.prog cf (k + 1) 23 [.sc (.int .i64 (n : Nat)), mkL 2 (pRows (E.map toI2))] [] = some (v, H) ∧ OutAt 3 1 H v (nRows O) := by
  have hli := lists_run n E hn hl hE k (by omega)
  have hlu := listsUp_run n E hn hl hE k (by omega)
  have hh := held_run n hn k (by omega)
  rw [arun_body rfl rfl Try.func23 rfl (N := 136) rfl]
  have b1 : n ≤ 140737488355328 := by omega
  have b1' : n * 8 ≤ 140737488355328 := by omega
  have b2 : n ≤ maxLen := by unfold maxLen; omega
  simp only [R0, RC, zipEnv, Nat.reduceLT, Nat.reduceAdd, Nat.reduceEqDiff, Nat.reduceLeDiff, reduceCtorEq, ↓reduceIte, ares, aresult, pr, Int.reduceEq, Int.reduceLT, Int.reduceLE, Nat.reduceSub, Nat.reduceMul, aFieldAddr, aField, aLoad, aStore, aExtract, aBox, aint, rdVar, rdCells, Value.oneCell', splice, Int.reduceNeg, zvar1, chunks, depth, some_map, Nat.reduceBEq, cf_dyn, okU, Try.f23, rf23, hli, hlu, hh, b1, b1', b2]
  generalize hA : aloop _ _ _ _ _ _ _ _ _ _ _ = A
  have hz : (List.replicate n [AV.sc (.int .i64 0)]).flatten = iCells (List.replicate n 0) := by
    unfold iCells
    rw [List.map_replicate, show (List.replicate n [AV.sc (.int .i64 0)]) = (List.replicate n (AV.sc (.int .i64 0))).map (fun v => [v]) by rw [List.map_replicate], flat_one]
  rw [hz] at hA
  have hwn := wraps (n := n) (by omega)
  have e1 := aloop_eqR hA [0, 5, 6, 7, 34, 35] (fun j => ⟨[(0, .sc (.int .i64 (n : Nat))), (5, .ro [mkL 1 ((List.range n).map fun i => [mkL 1 (nRows (adjN E i))])]), (6, mkL 1 ((List.range n).map fun i => [mkL 1 (nRows (adjN (swE E) i))])), (7, .ptr 1 0 0), (34, .sc (.int .i64 (n : Nat))), (35, .sc (.int .i64 (j : Nat)))], GH n (List.replicate j (-1) ++ List.replicate (n - j) 0) []⟩) n (by omega) rfl (by simp only [R0, RC, zipEnv, Nat.reduceLT, Nat.reduceAdd, Nat.reduceEqDiff, Nat.reduceLeDiff, reduceCtorEq, ↓reduceIte, ares, aresult, pr, Int.reduceEq, Int.reduceLT, Int.reduceLE, Nat.reduceSub, Nat.reduceMul, aFieldAddr, aField, aLoad, aStore, aExtract, aBox, aint, rdVar, rdCells, Value.oneCell', splice, Int.reduceNeg, zvar1, chunks, depth, some_map, Nat.reduceBEq, cf_dyn, okU, Try.f23, rf23]; rfl) (fun j hj => by
      have hlen : (List.replicate j (-1 : Int) ++ List.replicate (n - j) 0).length = n := by simp; omega
      have hs := rep_set hj
      generalize List.replicate j (-1 : Int) ++ List.replicate (n - j) 0 = G at *
      have hst := iCells_set (l := G) (c := j) (v := -1) (by omega)
      rw [hs] at hst
      have hle : (j + 1 ≤ (iCells G).length) = True := by rw [iCells_len]; simp; omega
      unfold GH
      simp only [R0, RC, zipEnv, Nat.reduceLT, Nat.reduceAdd, Nat.reduceEqDiff, Nat.reduceLeDiff, reduceCtorEq, ↓reduceIte, ares, aresult, pr, Int.reduceEq, Int.reduceLT, Int.reduceLE, Nat.reduceSub, Nat.reduceMul, aFieldAddr, aField, aLoad, aStore, aExtract, aBox, aint, rdVar, rdCells, Value.oneCell', Int.reduceNeg, zvar1, chunks, depth, some_map, Nat.reduceBEq, cf_dyn, okU, Try.f23, rf23, hj, hwn j hj, hst, hle]
      done) (by simp only [R0, RC, zipEnv, Nat.reduceLT, Nat.reduceAdd, Nat.reduceEqDiff, Nat.reduceLeDiff, reduceCtorEq, ↓reduceIte, ares, aresult, pr, Int.reduceEq, Int.reduceLT, Int.reduceLE, Nat.reduceSub, Nat.reduceMul, aFieldAddr, aField, aLoad, aStore, aExtract, aBox, aint, rdVar, rdCells, Value.oneCell', splice, Int.reduceNeg, zvar1, chunks, depth, some_map, Nat.reduceBEq, cf_dyn, okU, Try.f23, rf23]; rfl) rfl
  rw [e1]
  clear e1 hA A
  rw [Nat.sub_self, List.replicate_zero, List.append_nil]
  unfold GH
  simp only [R0, RC, zipEnv, Nat.reduceLT, Nat.reduceAdd, Nat.reduceEqDiff, Nat.reduceLeDiff, reduceCtorEq, ↓reduceIte, ares, aresult, pr, Int.reduceEq, Int.reduceLT, Int.reduceLE, Nat.reduceSub, Nat.reduceMul, aFieldAddr, aField, aLoad, aStore, aExtract, aBox, aint, rdVar, rdCells, Value.oneCell', splice, Int.reduceNeg, zvar1, chunks, depth, some_map, Nat.reduceBEq, cf_dyn, okU, Try.f23, rf23]
  generalize hA : aloop _ _ _ _ _ _ _ _ _ _ _ = A
  obtain ⟨G, Ls, hf, hGl, hLl, e1⟩ := comps_groups (n := n) (E := E) hn hl hE hk (G0 := List.replicate n (-1)) (by simp) hA (by simp only [R0, RC, zipEnv, Nat.reduceLT, Nat.reduceAdd, Nat.reduceEqDiff, Nat.reduceLeDiff, reduceCtorEq, ↓reduceIte, ares, aresult, pr, Int.reduceEq, Int.reduceLT, Int.reduceLE, Nat.reduceSub, Nat.reduceMul, aFieldAddr, aField, aLoad, aStore, aExtract, aBox, aint, rdVar, rdCells, Value.oneCell', splice, Int.reduceNeg, zvar1, chunks, depth, some_map, Nat.reduceBEq, cf_dyn, okU, Try.f23, rf23, GH, g9, gT, if_true]; try rfl)
  rw [e1]
  clear e1 hA A
  have b3 : Ls.length ≤ 1000 := by omega
  have b4 : Ls.length * 8 ≤ 140737488355328 := by omega
  have b5 : Ls.length ≤ maxLen := by unfold maxLen; omega
  have hzr : (List.replicate Ls.length [AV.sc (.int .i64 0)]).flatten = iCells (List.replicate Ls.length 0) := by
    unfold iCells
    rw [List.map_replicate, show (List.replicate Ls.length [AV.sc (.int .i64 0)]) = (List.replicate Ls.length (AV.sc (.int .i64 0))).map (fun v => [v]) by rw [List.map_replicate], flat_one]
  have hsl : ∀ {α : Type} (a b c : α) (l : List α) (x y : α), (a :: b :: c :: (l ++ [x])).set (l.length + 1 + 1 + 1) y = a :: b :: c :: (l ++ [y]) := fun a b c l x y => by simp
  have hg9 := fun H => g9_len (Ls := Ls) H
  unfold GH
  simp only [R0, RC, zipEnv, Nat.reduceLT, Nat.reduceAdd, Nat.reduceEqDiff, Nat.reduceLeDiff, reduceCtorEq, ↓reduceIte, ares, aresult, pr, Int.reduceEq, Int.reduceLT, Int.reduceLE, Nat.reduceSub, Nat.reduceMul, aFieldAddr, aField, aLoad, aStore, aExtract, aBox, aint, rdVar, rdCells, Value.oneCell', splice, Int.reduceNeg, zvar1, chunks, depth, some_map, Nat.reduceBEq, cf_dyn, okU, Try.f23, rf23, hg9, b4, b5, List.getElem?_concat_length, hsl, hzr]
  generalize hA : aloop _ _ _ _ _ _ _ _ _ _ _ = A
  have hwl := wraps (n := Ls.length) (by omega)
  have e1 := aloop_eqR hA [0, 5, 7, 9, 15, 90, 91] (fun j => ⟨[(0, .sc (.int .i64 (n : Nat))), (5, .ro [mkL 1 ((List.range n).map fun i => [mkL 1 (nRows (adjN E i))])]), (7, .ptr 1 0 0), (9, .ptr 2 0 0), (15, .ptr ((gT Ls).length + 1 + 1 + 1 + 1) 0 0), (90, .sc (.int .i64 Ls.length)), (91, .sc (.int .i64 (j : Nat)))], NH n G Ls (List.replicate j (-1) ++ List.replicate (Ls.length - j) 0)⟩) Ls.length (by omega) rfl (by simp only [R0, RC, zipEnv, Nat.reduceLT, Nat.reduceAdd, Nat.reduceEqDiff, Nat.reduceLeDiff, reduceCtorEq, ↓reduceIte, ares, aresult, pr, Int.reduceEq, Int.reduceLT, Int.reduceLE, Nat.reduceSub, Nat.reduceMul, aFieldAddr, aField, aLoad, aStore, aExtract, aBox, aint, rdVar, rdCells, Value.oneCell', splice, Int.reduceNeg, zvar1, chunks, depth, some_map, Nat.reduceBEq, cf_dyn, okU, Try.f23, rf23, NH, List.length_append, List.length_singleton, List.append_assoc, List.cons_append, List.nil_append]; try rfl) (fun j hj => by
      have hlen : (List.replicate j (-1 : Int) ++ List.replicate (Ls.length - j) 0).length = Ls.length := by simp; omega
      have hs := rep_set hj
      generalize List.replicate j (-1 : Int) ++ List.replicate (Ls.length - j) 0 = N at *
      have hst := iCells_set (l := N) (c := j) (v := -1) (by omega)
      rw [hs] at hst
      have hle : (j + 1 ≤ (iCells N).length) = True := by rw [iCells_len]; simp; omega
      obtain ⟨n1, n2, n3⟩ := NH_at (n := n) (G := G) (Ls := Ls) (N := N)
      simp only [R0, RC, zipEnv, Nat.reduceLT, Nat.reduceAdd, Nat.reduceEqDiff, Nat.reduceLeDiff, reduceCtorEq, ↓reduceIte, ares, aresult, pr, Int.reduceEq, Int.reduceLT, Int.reduceLE, Nat.reduceSub, Nat.reduceMul, aFieldAddr, aField, aLoad, aStore, aExtract, aBox, aint, rdVar, rdCells, Value.oneCell', Int.reduceNeg, zvar1, chunks, depth, some_map, Nat.reduceBEq, cf_dyn, okU, Try.f23, rf23, hj, hwl j hj, hst, hle, n1, n2, n3]
      rfl) (by simp only [R0, RC, zipEnv, Nat.reduceLT, Nat.reduceAdd, Nat.reduceEqDiff, Nat.reduceLeDiff, reduceCtorEq, ↓reduceIte, ares, aresult, pr, Int.reduceEq, Int.reduceLT, Int.reduceLE, Nat.reduceSub, Nat.reduceMul, aFieldAddr, aField, aLoad, aStore, aExtract, aBox, aint, rdVar, rdCells, Value.oneCell', splice, Int.reduceNeg, zvar1, chunks, depth, some_map, Nat.reduceBEq, cf_dyn, okU, Try.f23, rf23]; rfl) rfl
  rw [e1]
  clear e1 hA A
  rw [Nat.sub_self, List.replicate_zero, List.append_nil]
  have hfin := GFin.of hf
  have r2 : ∀ N, (NH n G Ls N)[2]? = some ⟨69, 1, 0, false, [g9 Ls], .cells⟩ := fun _ => rfl
  simp only [R0, RC, zipEnv, Nat.reduceLT, Nat.reduceAdd, Nat.reduceEqDiff, Nat.reduceLeDiff, reduceCtorEq, ↓reduceIte, ares, aresult, pr, Int.reduceEq, Int.reduceLT, Int.reduceLE, Nat.reduceSub, Nat.reduceMul, aFieldAddr, aField, aLoad, aStore, aExtract, aBox, aint, rdVar, rdCells, Value.oneCell', splice, Int.reduceNeg, zvar1, chunks, depth, some_map, Nat.reduceBEq, cf_dyn, okU, Try.f23, rf23, r2, hg9]
  generalize hA : aloop _ _ _ _ _ _ _ _ _ _ _ = A
  obtain ⟨N, hN, e2⟩ := comps_search hn (fun a => Nat.le_trans (adjN_len E a) hl) hE hk hfin hLl hA (by simp only [R0, RC, zipEnv, Nat.reduceLT, Nat.reduceAdd, Nat.reduceEqDiff, Nat.reduceLeDiff, reduceCtorEq, ↓reduceIte, ares, aresult, pr, Int.reduceEq, Int.reduceLT, Int.reduceLE, Nat.reduceSub, Nat.reduceMul, aFieldAddr, aField, aLoad, aStore, aExtract, aBox, aint, rdVar, rdCells, Value.oneCell', splice, Int.reduceNeg, zvar1, chunks, depth, some_map, Nat.reduceBEq, cf_dyn, okU, Try.f23, rf23]; try rfl)
  rw [e2]
  clear e2 hA A
  have hzn : (List.replicate n [AV.sc (.int .i64 0)]).flatten = iCells (List.replicate n 0) := hz
  simp only [R0, RC, zipEnv, Nat.reduceLT, Nat.reduceAdd, Nat.reduceEqDiff, Nat.reduceLeDiff, reduceCtorEq, ↓reduceIte, ares, aresult, pr, Int.reduceEq, Int.reduceLT, Int.reduceLE, Nat.reduceSub, Nat.reduceMul, aFieldAddr, aField, aLoad, aStore, aExtract, aBox, aint, rdVar, rdCells, Value.oneCell', splice, Int.reduceNeg, zvar1, chunks, depth, some_map, Nat.reduceBEq, cf_dyn, okU, Try.f23, rf23, b1, b1', b2, hzn]
  obtain ⟨n1, n2, _⟩ := NH_at (n := n) (G := G) (Ls := Ls) (N := N)
  have hlt1 := (List.getElem?_eq_some_iff.1 n1).1
  have hlt2 := (List.getElem?_eq_some_iff.1 n2).1
  have m0 : ∀ blk : Blk, (NH n G Ls N ++ [blk])[0]? = some ⟨3, 1, 0, true, iCells G, .cells⟩ := fun blk => rfl
  have m1 : ∀ blk : Blk, (NH n G Ls N ++ [blk])[1]? = some ⟨62, 1, 0, false, [.own 0 0 n 1 0], .cells⟩ := fun blk => rfl
  have m3 : ∀ blk : Blk, (NH n G Ls N ++ [blk])[(gT Ls).length + 1 + 1 + 1]? = some ⟨3, 1, 0, true, iCells N, .cells⟩ := fun blk => by rw [List.getElem?_append_left hlt1]; exact n1
  have m4 : ∀ blk : Blk, (NH n G Ls N ++ [blk])[(gT Ls).length + 1 + 1 + 1 + 1]? = some ⟨62, 1, 0, false, [.own ((gT Ls).length + 1 + 1 + 1) 0 Ls.length 1 0], .cells⟩ := fun blk => by rw [List.getElem?_append_left hlt2]; exact n2
  have m5 : ∀ blk : Blk, (NH n G Ls N ++ [blk])[(NH n G Ls N).length]? = some blk := fun blk => List.getElem?_concat_length
  have m6 : ∀ blk blk2 : Blk, (NH n G Ls N ++ [blk]).set (NH n G Ls N).length blk2 = NH n G Ls N ++ [blk2] := fun blk blk2 => by simp
  generalize hH : NH n G Ls N = HH at *
  simp only [R0, RC, zipEnv, Nat.reduceLT, Nat.reduceAdd, Nat.reduceEqDiff, Nat.reduceLeDiff, reduceCtorEq, ↓reduceIte, ares, aresult, pr, Int.reduceEq, Int.reduceLT, Int.reduceLE, Nat.reduceSub, Nat.reduceMul, aFieldAddr, aField, aLoad, aStore, aExtract, aBox, aint, rdVar, rdCells, Value.oneCell', splice, Int.reduceNeg, zvar1, chunks, depth, some_map, Nat.reduceBEq, cf_dyn, okU, Try.f23, rf23, m0, m1]
  generalize hA : aloop _ _ _ _ _ _ _ _ _ _ _ = A
  have e1 := aloop_eqR hA [15, 20, 120, 121, 122] (fun j => ⟨[(15, .ptr ((gT Ls).length + 1 + 1 + 1 + 1) 0 0), (20, .own HH.length 0 n 1 0), (120, .own 0 0 n 1 0), (121, .sc (.int .i64 (n : Nat))), (122, .sc (.int .i64 (j : Nat)))], HH ++ [⟨3, 1, 0, true, iCells ((List.range j).map (outI G N) ++ List.replicate (n - j) 0), .cells⟩]⟩) n (by omega) rfl (by simp only [R0, RC, zipEnv, Nat.reduceLT, Nat.reduceAdd, Nat.reduceEqDiff, Nat.reduceLeDiff, reduceCtorEq, ↓reduceIte, ares, aresult, pr, Int.reduceEq, Int.reduceLT, Int.reduceLE, Nat.reduceSub, Nat.reduceMul, aFieldAddr, aField, aLoad, aStore, aExtract, aBox, aint, rdVar, rdCells, Value.oneCell', splice, Int.reduceNeg, zvar1, chunks, depth, some_map, Nat.reduceBEq, cf_dyn, okU, Try.f23, rf23]; rfl) (fun j hj => by
      have hlen : ((List.range j).map (outI G N) ++ List.replicate (n - j) 0).length = n := by simp; omega
      have hs := outI_set (G := G) (N := N) hj
      obtain ⟨c, hc, hcL⟩ := hfin.at_ j hj
      have hcm := (List.getElem?_eq_some_iff.1 hcL).1
      have hcN : N[c]? = some (outI G N j) := by
        unfold outI
        rw [hc]
        simp only [Option.getD_some, Int.toNat_natCast]
        rw [List.getElem?_eq_getElem (by have := hN.lN; omega)]
        rfl
      have hG : (iCells G)[j]? = some (.sc (.int .i64 (c : Nat))) := by
        unfold iCells
        rw [List.getElem?_map, hc]
        rfl
      have hNc : (iCells N)[c]? = some (.sc (.int .i64 (outI G N j))) := by
        unfold iCells
        rw [List.getElem?_map, hcN]
        rfl
      generalize (List.range j).map (outI G N) ++ List.replicate (n - j) 0 = O at *
      have hst := iCells_set (l := O) (c := j) (v := outI G N j) (by omega)
      rw [hs] at hst
      have hle : (j + 1 ≤ (iCells O).length) = True := by rw [iCells_len]; simp; omega
      simp only [R0, RC, zipEnv, Nat.reduceLT, Nat.reduceAdd, Nat.reduceEqDiff, Nat.reduceLeDiff, reduceCtorEq, ↓reduceIte, ares, aresult, pr, Int.reduceEq, Int.reduceLT, Int.reduceLE, Nat.reduceSub, Nat.reduceMul, aFieldAddr, aField, aLoad, aStore, aExtract, aBox, aint, rdVar, rdCells, Value.oneCell', Int.reduceNeg, zvar1, chunks, depth, some_map, Nat.reduceBEq, cf_dyn, okU, Try.f23, rf23, hj, hwn j hj, hst, hle, hG, hNc, hcm, m0, m1, m3, m4, m5, m6]
      done) (by simp only [R0, RC, zipEnv, Nat.reduceLT, Nat.reduceAdd, Nat.reduceEqDiff, Nat.reduceLeDiff, reduceCtorEq, ↓reduceIte, ares, aresult, pr, Int.reduceEq, Int.reduceLT, Int.reduceLE, Nat.reduceSub, Nat.reduceMul, aFieldAddr, aField, aLoad, aStore, aExtract, aBox, aint, rdVar, rdCells, Value.oneCell', splice, Int.reduceNeg, zvar1, chunks, depth, some_map, Nat.reduceBEq, cf_dyn, okU, Try.f23, rf23]; rfl) rfl
  rw [e1]
  clear e1 hA A
  rw [Nat.sub_self, List.replicate_zero, List.append_nil]
  have hO : ∀ i, i < n → ∃ v : Nat, v < n ∧ outI G N i = (v : Int) ∧ ∃ g : Nat, G[i]? = some (g : Int) ∧ N[g]? = some (v : Int) := fun i hi => by
    obtain ⟨c, hc, hcL⟩ := hfin.at_ i hi
    have hcm := (List.getElem?_eq_some_iff.1 hcL).1
    have h0 : N.countP (fun v => decide (v < 0)) = 0 := by have := hN.cnt; omega
    rcases hN.val_ c hcm with h1 | ⟨v, h1, h2⟩
    · exfalso
      rw [List.countP_eq_zero] at h0
      have hcl : c < N.length := by have := hN.lN; omega
      have := h0 N[c] (List.getElem_mem _)
      rw [List.getElem?_eq_getElem hcl] at h1
      simp only [Option.getD_some] at h1
      simp [h1] at this
    · refine ⟨v, by omega, ?_, c, hc, h2⟩
      unfold outI
      rw [hc]
      simp only [Option.getD_some, Int.toNat_natCast]
      rw [h2]
      rfl
  refine ⟨(List.range n).map fun i => (outI G N i).toNat, by simp, fun i v hv => ?_, fun i j v w hv hw => ?_, ?_⟩
  · obtain ⟨hi, hv⟩ := rangeMap_some hv
    obtain ⟨v', h1, h2, _⟩ := hO i hi
    rw [h2] at hv
    simp only [Int.toNat_natCast] at hv
    omega
  · obtain ⟨hi, hv⟩ := rangeMap_some hv
    obtain ⟨hj, hw⟩ := rangeMap_some hw
    obtain ⟨v', h1, h2, g, h3, h4⟩ := hO i hi
    obtain ⟨w', h5, h6, g', h7, h8⟩ := hO j hj
    rw [h2] at hv
    rw [h6] at hw
    simp only [Int.toNat_natCast] at hv hw
    subst hv hw
    rw [← hfin.same hi hj, h3, h7]
    constructor
    · rintro rfl
      rw [hN.inj g g' _ h4 h8]
    · intro e
      have := Option.some.inj e
      obtain rfl : g = g' := by omega
      rw [h4] at h8
      have := Option.some.inj h8
      omega
  · refine ⟨_, _, by simp only [R0, RC, zipEnv, Nat.reduceLT, Nat.reduceAdd, Nat.reduceEqDiff, Nat.reduceLeDiff, reduceCtorEq, ↓reduceIte, ares, aresult, pr, Int.reduceEq, Int.reduceLT, Int.reduceLE, Nat.reduceSub, Nat.reduceMul, aFieldAddr, aField, aLoad, aStore, aExtract, aBox, aint, rdVar, rdCells, Value.oneCell', splice, Int.reduceNeg, zvar1, chunks, depth, some_map, Nat.reduceBEq, cf_dyn, okU, Try.f23, rf23]; rfl, .inr ⟨?_, HH.length, 0, ?_, ?_⟩⟩
    · intro e
      have := congrArg List.length e
      simp [nRows] at this
      omega
    · simp [nRows]
    · rw [List.getElem?_concat_length]
      congr 2
      unfold nRows iCells
      rw [List.map_map, List.map_map]
      rw [show ((List.range n).map ((fun i : Nat => [AV.sc (Value.int IntKind.i64 (i : Nat))]) ∘ fun i => (outI G N i).toNat)) = ((List.range n).map fun i => AV.sc (Value.int IntKind.i64 (((outI G N i).toNat : Nat) : Int))).map (fun v => [v]) by rw [List.map_map]; rfl, flat_one]
      refine List.map_congr_left fun i hi => ?_
      obtain ⟨v, _, h2, _⟩ := hO i (List.mem_range.1 hi)
      simp only [Function.comp]
      rw [h2]
      rfl
theorem compsV_run (n : Nat) (E : List (Nat × Nat)) (hn : n ≤ 1000) (hn0 : 0 < n) (hl : E.length ≤ 100000) (hE : ∀ x ∈ E, x.1 < n ∧ x.2 < n) (k : Nat) (hk : 300001 ≤ k) :
    ∃ O : List Nat, O.length = n ∧ (∀ (i : Nat) v, O[i]? = some v → v < n) ∧ (∀ (i j : Nat) v w, O[i]? = some v → O[j]? = some w → (v = w ↔ Mu E i j)) ∧ val Try.prog cf k 23 [.sc (.int .i64 (n : Nat)), mkL 2 (pRows (E.map toI2))] = some (mkL 1 (nRows O)) := by
  obtain ⟨k, rfl⟩ : ∃ j, k = j + 1 := ⟨k - 1, by omega⟩
  obtain ⟨O, h1, h2, h3, H, v, h4, h5⟩ := comps_run n E hn hn0 hl hE k (by omega)
  exact ⟨O, h1, h2, h3, val_acc h4 h5 nRows_row nRows_stay⟩
end Go.Proofs.YtigfnhbbfbnicaaA
