/- A part of the proof of StrataFewer: functions of the program, run by the evaluator. -/

/- comps.Lists. -/
import Derived.Test.YtigfnhbbfbnicaaN33
namespace Go.Proofs.YtigfnhbbfbnicaaA
open Go Go.RowKit
set_option linter.all false
set_option linter.unusedSectionVars false
set_option linter.constructorNameAsVariable false
set_option linter.unusedVariables false
set_option linter.unusedSimpArgs false
theorem NestAt.own {eo ei : TypeId} {H : List Blk} {v : AV} {vs : List AV} {ls : List (List (List AV))} (h : NestAt eo ei H v vs ls) (hne : 0 < ls.length) : ∃ b ver, v = .own b 0 vs.length 1 ver := by
  rcases h.top with ⟨h1, h2⟩ | ⟨h1, b, ver, h2, h3⟩
  · have hv : vs = [] := by simpa using h1
    have := h.len
    rw [hv] at this
    simp at this
    omega
  · rw [List.length_map] at h2
    exact ⟨b, ver, h2⟩
theorem NestAt.len_ii {ei : TypeId} {H H2 : List Blk} {v : AV} {vs : List AV} {ls : List (List (List AV))} (h : NestAt 62 ei H v vs ls) : aLen Try.prog H2 69 v = some (.val (.sc (.int .i64 ls.length))) := by
  rcases h.top with ⟨h1, h2⟩ | ⟨h1, b, ver, h2, h3⟩
  · have hv : vs = [] := by simpa using h1
    have := h.len
    rw [hv] at this
    rw [h2, ← this]
    exact aLen_nil Try.underlying69
  · rw [h2, List.length_map, h.len]
    exact lo69
set_option maxHeartbeats 1000000 in
theorem compsLists_run (n : Nat) (O : List Nat) (hn : n ≤ 1000) (hOl : O.length ≤ 1000) (hO : ∀ (i : Nat) v, O[i]? = some v → v < n) (k : Nat) (hk : 3000 ≤ k) :
    ∃ Ls : List (List Nat), Ls.length ≤ n ∧ (∀ L ∈ Ls, L.length ≤ O.length ∧ ∀ x ∈ L, x < O.length) ∧ valD Try.prog cf k 28 [mkL 1 (nRows O)] = some (mkL 1 (Ls.map fun L => [mkL 1 (nRows L)])) := by
  obtain ⟨k, rfl⟩ : ∃ j, k = j + 1 := ⟨k - 1, by omega⟩
  have key : ∃ Ls : List (List Nat), Ls.length ≤ n ∧ (∀ L ∈ Ls, L.length ≤ O.length ∧ ∀ x ∈ L, x < O.length) ∧ ∃ H' v vs, arun Try.prog cf (k + 1) 28 [mkL 1 (nRows O)] [] = some (v, H') ∧ NestAt 62 3 H' v vs (Ls.map nRows) := by
    rw [arun_body rfl rfl Try.func28 rfl (N := 38) rfl]
    have hw := wraps (n := O.length) (by omega)
    simp only [R0, RC, zipEnv, Nat.reduceLT, Nat.reduceAdd, Nat.reduceEqDiff, Nat.reduceLeDiff, reduceCtorEq, ↓reduceIte, ares, aresult, pr, Int.reduceEq, Int.reduceLT, Int.reduceLE, Nat.reduceSub, Nat.reduceMul, aFieldAddr, aField, aLoad, aStore, aExtract, aBox, aint, rdVar, rdCells, Value.oneCell', splice, Int.reduceNeg, zvar1, chunks, depth, some_map, Nat.reduceBEq, cf_dyn, okU, Try.f28, rf28]
    generalize hA : aloop _ _ _ _ _ _ _ _ _ _ _ = A
    obtain ⟨s, ⟨v, vs, H, Ls, rfl, hnest, hlen, hmem⟩, e1⟩ := aloop_inv2 hA [3, 6, 7, 8] (fun j s => ∃ v vs H, ∃ Ls : List (List Nat), s = ⟨[(3, v), (6, mkL 1 (nRows O)), (7, .sc (.int .i64 O.length)), (8, .sc (.int .i64 (j : Nat)))], H⟩ ∧ NestAt 62 3 H v vs (Ls.map nRows) ∧ Ls.length ≤ n ∧ ∀ L ∈ Ls, L.length ≤ j ∧ ∀ x ∈ L, x < j) O.length (by omega) rfl
      ⟨_, [], [], [], by simp only [R0, RC, zipEnv, Nat.reduceLT, Nat.reduceAdd, Nat.reduceEqDiff, Nat.reduceLeDiff, reduceCtorEq, ↓reduceIte, ares, aresult, pr, Int.reduceEq, Int.reduceLT, Int.reduceLE, Nat.reduceSub, Nat.reduceMul, aFieldAddr, aField, aLoad, aStore, aExtract, aBox, aint, rdVar, rdCells, Value.oneCell', splice, Int.reduceNeg, zvar1, chunks, depth, some_map, Nat.reduceBEq, cf_dyn, okU, Try.f28, rf28]; rfl, NestAt.nil, by simp, fun L h => by cases h⟩
      (fun j hj s ⟨v, vs, H, Ls, hs, hnest, hlen, hmem⟩ => by
        subst hs
        obtain ⟨c, hc⟩ : ∃ c, c = O[j] := ⟨_, rfl⟩
        have xj : O[j]? = some c := by rw [hc]; exact List.getElem?_eq_getElem hj
        have hcn := hO j c xj
        have c1 : ¬ ((c : Int) < 0) := by omega
        have c2 : ¬ ((1000 : Int) < (c : Int)) := by omega
        simp only [R0, RC, zipEnv, Nat.reduceLT, Nat.reduceAdd, Nat.reduceEqDiff, Nat.reduceLeDiff, reduceCtorEq, ↓reduceIte, ares, aresult, pr, Int.reduceEq, Int.reduceLT, Int.reduceLE, Nat.reduceSub, Nat.reduceMul, aFieldAddr, aField, aLoad, aStore, aExtract, aBox, aint, rdVar, rdCells, Value.oneCell', splice, Int.reduceNeg, zvar1, chunks, depth, some_map, Nat.reduceBEq, cf_dyn, okU, Try.f28, rf28, loopAt, findLoop, firstId, Option.getD_some, Option.some.injEq, Nat.reduceEqDiff, if_false, if_true, hj, xj, hw j hj, c1, c2]
        generalize hB : aloop _ _ _ _ _ _ _ _ _ _ _ = B
        obtain ⟨s, ⟨v2, vs2, H2, rfl, hnest2⟩, e2⟩ := aloop_inv2 hB [3, 4, 5, 6, 7, 8] (fun i s => ∃ v vs H, s = ⟨[(3, v), (4, .sc (.int .i64 (j : Nat))), (5, .sc (.int .i64 (c : Nat))), (6, mkL 1 (nRows O)), (7, .sc (.int .i64 O.length)), (8, .sc (.int .i64 (j : Nat)))], H⟩ ∧ NestAt 62 3 H v vs ((Ls ++ List.replicate i []).map nRows)) (c + 1 - Ls.length) (by omega) rfl
          ⟨v, vs, H, by simp only [R0, RC, zipEnv, Nat.reduceLT, Nat.reduceAdd, Nat.reduceEqDiff, Nat.reduceLeDiff, reduceCtorEq, ↓reduceIte, ares, aresult, pr, Int.reduceEq, Int.reduceLT, Int.reduceLE, Nat.reduceSub, Nat.reduceMul, aFieldAddr, aField, aLoad, aStore, aExtract, aBox, aint, rdVar, rdCells, Value.oneCell', splice, Int.reduceNeg, zvar1, chunks, depth, some_map, Nat.reduceBEq, cf_dyn, okU, Try.f28, rf28]; try rfl, by simpa using hnest⟩
          (fun i hi s ⟨v, vs, H, hs, hn1⟩ => by
            subst hs
            have hl1 := fun H2 => hn1.len_ii (H2 := H2)
            rw [List.length_map, List.length_append, List.length_replicate] at hl1
            have hle : (((Ls.length + i : Nat) : Int) ≤ (c : Int)) = True := by simp; omega
            obtain ⟨v', H', q1, q2, q3⟩ := hn1.push (to := 69) (x := .sc (.slice none 0 0)) (r := []) ro69 (by rw [List.length_map, List.length_append, List.length_replicate]; omega) (by rw [List.length_map, List.length_append, List.length_replicate]; unfold maxLen; omega) (.inl ⟨rfl, rfl⟩) (fun c h => by cases h) (fun i w c _ _ h => by cases h)
            refine ⟨_, by simp only [R0, RC, zipEnv, Nat.reduceLT, Nat.reduceAdd, Nat.reduceEqDiff, Nat.reduceLeDiff, reduceCtorEq, ↓reduceIte, ares, aresult, pr, Int.reduceEq, Int.reduceLT, Int.reduceLE, Nat.reduceSub, Nat.reduceMul, aFieldAddr, aField, aLoad, aStore, aExtract, aBox, aint, rdVar, rdCells, Value.oneCell', splice, Int.reduceNeg, zvar1, chunks, depth, some_map, Nat.reduceBEq, cf_dyn, okU, Try.f28, rf28, hl1, hle, q1], v', vs ++ [.sc (.slice none 0 0)], H', rfl, ?_⟩
            rw [List.replicate_succ', ← List.append_assoc, List.map_append]
            exact q2)
          (fun s ⟨v, vs, H, hs, hn1⟩ => by
            subst hs
            have hl1 := fun H2 => hn1.len_ii (H2 := H2)
            rw [List.length_map, List.length_append, List.length_replicate] at hl1
            have hle : (((Ls.length + (c + 1 - Ls.length) : Nat) : Int) ≤ (c : Int)) = False := by simp; omega
            simp only [R0, RC, zipEnv, Nat.reduceLT, Nat.reduceAdd, Nat.reduceEqDiff, Nat.reduceLeDiff, reduceCtorEq, ↓reduceIte, ares, aresult, pr, Int.reduceEq, Int.reduceLT, Int.reduceLE, Nat.reduceSub, Nat.reduceMul, aFieldAddr, aField, aLoad, aStore, aExtract, aBox, aint, rdVar, rdCells, Value.oneCell', splice, Int.reduceNeg, zvar1, chunks, depth, some_map, Nat.reduceBEq, cf_dyn, okU, Try.f28, rf28, hl1, hle])
        rw [e2]
        have hl1 := fun H2 => hnest2.len_ii (H2 := H2)
        rw [List.length_map, List.length_append, List.length_replicate] at hl1
        have hle : (((Ls.length + (c + 1 - Ls.length) : Nat) : Int) ≤ (c : Int)) = False := by simp; omega
        have hL2 : (Ls ++ List.replicate (c + 1 - Ls.length) []).length ≤ n := by rw [List.length_append, List.length_replicate]; omega
        have hL3 : c < (Ls ++ List.replicate (c + 1 - Ls.length) []).length := by rw [List.length_append, List.length_replicate]; omega
        have hmem2 : ∀ L ∈ Ls ++ List.replicate (c + 1 - Ls.length) [], L.length ≤ j ∧ ∀ x ∈ L, x < j := fun L hL => by
          rcases List.mem_append.1 hL with h | h
          · exact hmem L h
          · have := (List.mem_replicate.1 h).2
            subst this
            exact ⟨by simp, fun x hx => by cases hx⟩
        have hln : Ls.length + (c + 1 - Ls.length) = (Ls ++ List.replicate (c + 1 - Ls.length) []).length := by rw [List.length_append, List.length_replicate]
        rw [hln] at hle
        simp only [hln] at hl1
        generalize Ls ++ List.replicate (c + 1 - Ls.length) [] = L2 at *
        obtain ⟨b, ver, rfl⟩ := hnest2.own (by rw [List.length_map]; omega)
        have hcv : c < vs2.length := by have := hnest2.len; rw [List.length_map] at this; omega
        obtain ⟨L, hL⟩ : ∃ L, L2[c]? = some L := ⟨L2[c], List.getElem?_eq_getElem hL3⟩
        obtain ⟨hLj, hLm⟩ := hmem2 L (List.mem_of_getElem? hL)
        have hvlen : vs2.length = L2.length := by have := hnest2.len; rwa [List.length_map] at this
        obtain ⟨w', H', q1, q2, q4, q5, q6, q7, q8⟩ := hnest2.grow (ti := 62) (k := c) (x := .sc (.int .i64 (j : Nat))) (r := nRows L) ro62 (List.getElem?_eq_getElem hcv) (by rw [List.getElem?_map, hL]; rfl) nRows_row rfl (by simp; omega) (by simp [maxLen]; omega)
        have q3 : vs2[c]? = some vs2[c] := List.getElem?_eq_getElem hcv
        have hsp : splice vs2 c [w'] = vs2.set c w' := by
          unfold splice
          rw [List.set_eq_take_append_cons_drop, if_pos hcv]
          simp
        have hvl : c + 1 ≤ L2.length := hL3
        have hll : (L2.length ≤ c) = False := by simp; omega
        refine ⟨_, by
          simp only [R0, RC, zipEnv, Nat.reduceLT, Nat.reduceAdd, Nat.reduceEqDiff, Nat.reduceLeDiff, reduceCtorEq, ↓reduceIte, ares, aresult, pr, Int.reduceEq, Int.reduceLT, Int.reduceLE, Nat.reduceSub, Nat.reduceMul, aFieldAddr, aField, aLoad, aStore, aExtract, aBox, aint, rdVar, rdCells, Value.oneCell', Int.reduceNeg, zvar1, chunks, depth, some_map, Nat.reduceBEq, cf_dyn, okU, Try.f28, rf28, hl1, hle, hll, hvlen, hL3, hw j hj, q1, q2, q3, q4, q5, q6, q7, hvl, hsp]
          rfl, _, vs2.set c w', _, L2.set c (L ++ [j]), rfl, ?_, ?_, ?_⟩
        · rw [List.map_set, show nRows (L ++ [j]) = nRows L ++ [[.sc (.int .i64 (j : Nat))]] by simp [nRows]]
          rw [hvlen] at q8
          exact q8
        · rw [List.length_set]; exact hL2
        · intro M hM
          rcases List.mem_or_eq_of_mem_set hM with h | h
          · obtain ⟨h1, h2⟩ := hmem2 M h
            exact ⟨by omega, fun x hx => by have := h2 x hx; omega⟩
          · subst h
            refine ⟨by simp; omega, fun x hx => ?_⟩
            rcases List.mem_append.1 hx with h | h
            · have := hLm x h; omega
            · simp at h; omega)
      (fun s ⟨v, vs, H, Ls, hs, _⟩ => by
        subst hs
        simp only [R0, RC, zipEnv, Nat.reduceLT, Nat.reduceAdd, Nat.reduceEqDiff, Nat.reduceLeDiff, reduceCtorEq, ↓reduceIte, ares, aresult, pr, Int.reduceEq, Int.reduceLT, Int.reduceLE, Nat.reduceSub, Nat.reduceMul, aFieldAddr, aField, aLoad, aStore, aExtract, aBox, aint, rdVar, rdCells, Value.oneCell', splice, Int.reduceNeg, zvar1, chunks, depth, some_map, Nat.reduceBEq, cf_dyn, okU, Try.f28, rf28])
    rw [e1]
    exact ⟨Ls, hlen, hmem, H, v, vs, by simp only [R0, RC, zipEnv, Nat.reduceLT, Nat.reduceAdd, Nat.reduceEqDiff, Nat.reduceLeDiff, reduceCtorEq, ↓reduceIte, ares, aresult, pr, Int.reduceEq, Int.reduceLT, Int.reduceLE, Nat.reduceSub, Nat.reduceMul, aFieldAddr, aField, aLoad, aStore, aExtract, aBox, aint, rdVar, rdCells, Value.oneCell', splice, Int.reduceNeg, zvar1, chunks, depth, some_map, Nat.reduceBEq, cf_dyn, okU, Try.f28, rf28], hnest⟩
  obtain ⟨Ls, h1, h2, H', v, vs, e, h⟩ := key
  refine ⟨Ls, h1, h2, ?_⟩
  have hr := h.rb (fun r hr q hq => by
    obtain ⟨L, _, rfl⟩ := List.mem_map.1 hr
    exact ⟨nRows_row q hq, fun x hx => (nRows_stay q hq x hx).1⟩) 37
  rw [List.map_map] at hr
  exact valD_of e hr
end Go.Proofs.YtigfnhbbfbnicaaA
