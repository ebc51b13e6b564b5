/- A part of the proof of StrataFewer: functions of the program, run by the evaluator. -/

/- strata.Strata, run. -/
import Derived.Test.YtigfnhbbfbnicaaN36
namespace Go.Proofs.YtigfnhbbfbnicaaA
open Go Go.RowKit
set_option linter.all false
set_option linter.unusedSectionVars false
set_option linter.constructorNameAsVariable false
set_option linter.unusedVariables false
set_option linter.unusedSimpArgs false
theorem any_take' {α : Type} {l : List α} {q : α → Bool} {j : Nat} {x : α} (h : l[j]? = some x) : (l.take (j + 1)).any q = ((l.take j).any q || q x) := by
  obtain ⟨hj, rfl⟩ := List.getElem?_eq_some_iff.1 h
  rw [List.take_succ_eq_append_getElem hj, List.any_append]
  simp
set_option maxHeartbeats 2000000 in
theorem strata_run (p : ProgT) (hR : p.rules.length ≤ 1000) (hBd : ∀ r ∈ p.rules, r.body.length ≤ 1000 ∧ ∀ l ∈ r.body, l.path.length ≤ 900) (hN : (allN p).length ≤ 1000) (k : Nat) (hk : 1000300 ≤ k) :
    ∃ rows : List (List AV), rows.length ≤ (namesT p).length ∧ val Try.prog cf k 8 [.agg p.c] = some (.tup [mkL 1 rows, .sc (.int .i64 (strE p))]) := by
  obtain ⟨k, rfl⟩ : ∃ j, k = j + 1 := ⟨k - 1, by omega⟩
  have hn := names_run p hR hBd (by omega) k (by omega)
  have hNe := needs_run p hR hBd (by omega) k (by omega)
  have hnl : (namesT p).length ≤ 1000 := Nat.le_trans (Ord.nsort_len_le _) hN
  have hNl : (needsT p).length ≤ 1000 := by
    refine Nat.le_trans (Ord.nsort_len_le _) (Nat.le_trans (rawN_len _ _) ?_)
    simp only [allN, List.length_cons] at hN
    omega
  have hEl : (needsE p).length ≤ 100000 := by unfold needsE; rw [List.length_map]; omega
  have hup := namesT_up p
  have hqn : p.query.p ∈ namesT p := (Ord.nsort_mem Ord.linS _ _).2 (by simp [allN])
  have hn0 : 0 < (namesT p).length := List.length_pos_of_mem hqn
  obtain ⟨O, hO1, hO2, hO3, hC⟩ := compsV_run (namesT p).length (needsE p) hnl hn0 hEl needsE_lt k (by omega)
  rw [needsE_enc] at hC
  obtain ⟨Ls, hLl, hLm, hLi⟩ := compsLists_run (namesT p).length O hnl (by omega) hO2 k (by omega)
  have hSame : ∀ s t, s ∈ namesT p → t ∈ namesT p → ∀ v w : Nat, O[posS (namesT p) s]? = some v → O[posS (namesT p) t]? = some w → (v = w ↔ sameP p s t) := fun s t _ _ v w hv hw => hO3 _ _ v w hv hw
  have hHead := fun r (hr : r ∈ p.rules) => head_named hr
  have hUse : ∀ r, r ∈ p.rules → ∀ q, q ∈ eachL r.body → q.2 ∈ namesT p := fun r hr q hq => by
    unfold eachL at hq
    obtain ⟨l, hl, hq⟩ := List.mem_flatMap.1 hq
    obtain ⟨s, hs, rfl⟩ := List.mem_map.1 hq
    exact uses_named hr hl hs
  rw [show Ord.sorted (allN p) = namesT p from rfl] at hn
  simp only [ProgT.c] at hn hNe
  have hStr : ∀ b c : Bool, (b = true ↔ BadP p) → (c = true ↔ CycP p) → strE p = if b = true then 8 else if c = true then 9 else 0 := fun b c h1 h2 => by
    unfold strE
    by_cases hB : BadP p
    · rw [if_pos hB, if_pos (h1.2 hB)]
    · rw [if_neg hB, if_neg (fun h => hB (h1.1 h))]
      by_cases hC : CycP p
      · rw [if_pos hC, if_pos (h2.2 hC)]
      · rw [if_neg hC, if_neg (fun h => hC (h2.1 h))]
  have hdefB : BadP p ↔ ∃ r ∈ p.rules, ∃ q ∈ eachL r.body, sameP p q.2 r.head.p ∧ (q.1.k = 2 ∨ 0 < r.fold) := Iff.rfl
  have hdefC : CycP p ↔ ∃ r ∈ p.rules, ∃ q ∈ eachL r.body, sameP p q.2 r.head.p ∧ r.body.any isLet = true := Iff.rfl
  have hpos := fun t (ht : t ∈ namesT p) => posS_mem hup ht
  have hposat := fun i (hi : i < (namesT p).length) => posS_at hup hi
  obtain ⟨names, hnames⟩ : ∃ names, names = namesT p := ⟨_, rfl⟩
  rw [← hnames] at hn hC hnl hn0 hO1 hO2 hSame hHead hUse hLl hpos hposat ⊢
  have key : ∃ (v x : AV) (H' : List Blk) (rows : List (List AV)), arun Try.prog cf (k + 1) 8 [.agg p.c] [] = some (.tup [v, x], H') ∧ x = .sc (.int .i64 (strE p)) ∧ rows.length ≤ names.length ∧ rb H' 39 v = some (mkL 1 rows) ∧ deepF H' 39 v = true := by
    rw [arun_body rfl rfl Try.func8 rfl (N := 87) rfl]
    have hwR := wraps (n := p.rules.length) (by omega)
    have hwN := wraps (n := names.length) (by omega)
    simp only [R0, RC, zipEnv, Nat.reduceLT, Nat.reduceAdd, Nat.reduceEqDiff, Nat.reduceLeDiff, reduceCtorEq, ↓reduceIte, ares, aresult, pr, Int.reduceEq, Int.reduceLT, Int.reduceLE, Nat.reduceSub, Nat.reduceMul, aFieldAddr, aField, aLoad, aStore, aExtract, aBox, aint, rdVar, rdCells, Value.oneCell', splice, Int.reduceNeg, zvar1, chunks, depth, some_map, Nat.reduceBEq, cf_dyn, okU, Try.f8, rf8, ProgT.c, hn, hNe, hC, aop_makeMap, mkM]
    generalize hA : aloop _ _ _ _ _ _ _ _ _ _ _ = A
    obtain ⟨s, ⟨md, rfl, hmd⟩, e1⟩ := aloop_inv2 hA [1, 4, 5, 6, 28, 29, 30] (fun j s => ∃ md : SM, s = ⟨[(1, .ro [mkL 4 (p.rules.map RuleT.c), .sc (.string p.query.p), mkL 4 (p.query.args.map TermT.c)]), (4, mkL 1 (sRows names)), (5, mkL 1 (nRows O)), (6, .ptr 1 0 0), (28, mkL 1 (sRows names)), (29, .sc (.int .i64 names.length)), (30, .sc (.int .i64 (j : Nat)))], [⟨0, 0, 0, false, [], .map (encM md)⟩, ⟨64, 1, 0, false, [.mp 0 0], .cells⟩]⟩ ∧ ∀ (i : Nat) t, i < j → names[i]? = some t → ∃ v : Nat, O[i]? = some v ∧ lookM md t = (v : Int)) names.length (by omega) rfl
      ⟨[], by simp only [R0, RC, zipEnv, Nat.reduceLT, Nat.reduceAdd, Nat.reduceEqDiff, Nat.reduceLeDiff, reduceCtorEq, ↓reduceIte, ares, aresult, pr, Int.reduceEq, Int.reduceLT, Int.reduceLE, Nat.reduceSub, Nat.reduceMul, aFieldAddr, aField, aLoad, aStore, aExtract, aBox, aint, rdVar, rdCells, Value.oneCell', splice, Int.reduceNeg, zvar1, chunks, depth, some_map, Nat.reduceBEq, cf_dyn, okU, Try.f8, rf8]; rfl, fun i t h => by omega⟩
      (fun j hj s ⟨md, hs0, hmd⟩ => by
        subst hs0
        obtain ⟨t, ht⟩ : ∃ t, t = names[j] := ⟨_, rfl⟩
        have xj : names[j]? = some t := by rw [ht]; exact List.getElem?_eq_getElem hj
        obtain ⟨v, hv⟩ : ∃ v, O[j]? = some v := ⟨_, List.getElem?_eq_getElem (by omega)⟩
        have p1 := put_sI (H := [⟨0, 0, 0, false, [], .map (encM md)⟩, ⟨64, 1, 0, false, [.mp 0 0], .cells⟩]) (b := 0) (blk := default) (m := md) (s := t) (v := (v : Int)) rfl
        refine ⟨_, by
          simp only [R0, RC, zipEnv, Nat.reduceLT, Nat.reduceAdd, Nat.reduceEqDiff, Nat.reduceLeDiff, reduceCtorEq, ↓reduceIte, ares, aresult, pr, Int.reduceEq, Int.reduceLT, Int.reduceLE, Nat.reduceSub, Nat.reduceMul, aFieldAddr, aField, aLoad, aStore, aExtract, aBox, aint, rdVar, rdCells, Value.oneCell', splice, Int.reduceNeg, zvar1, chunks, depth, some_map, Nat.reduceBEq, cf_dyn, okU, Try.f8, rf8, hj, xj, hwN j hj, sC, hv, aop_mapUpdate, p1], putM md t (v : Int), rfl, fun i u hi hu => ?_⟩
        rw [look_put]
        by_cases hij : i = j
        · subst hij
          rw [xj] at hu
          rw [if_pos (Option.some.inj hu).symm]
          exact ⟨v, hv, rfl⟩
        · rw [if_neg]
          · exact hmd i u (by omega) hu
          · rintro rfl
            have h1 := hposat i (by omega)
            have h2 := hposat j hj
            rw [← ht] at h2
            have h3 : names[i]'(by omega) = u := by
              have := List.getElem?_eq_getElem (l := names) (i := i) (by omega)
              rw [hu] at this
              exact (Option.some.inj this).symm
            rw [h3] at h1
            omega)
      (fun s ⟨md, hs0, _⟩ => by
        subst hs0
        simp only [R0, RC, zipEnv, Nat.reduceLT, Nat.reduceAdd, Nat.reduceEqDiff, Nat.reduceLeDiff, reduceCtorEq, ↓reduceIte, ares, aresult, pr, Int.reduceEq, Int.reduceLT, Int.reduceLE, Nat.reduceSub, Nat.reduceMul, aFieldAddr, aField, aLoad, aStore, aExtract, aBox, aint, rdVar, rdCells, Value.oneCell', splice, Int.reduceNeg, zvar1, chunks, depth, some_map, Nat.reduceBEq, cf_dyn, okU, Try.f8, rf8])
    have hlook : ∀ s t, s ∈ names → t ∈ names → (lookM md s = lookM md t ↔ sameP p s t) := fun s t hs ht => by
      obtain ⟨h1, h2⟩ := hpos s hs
      obtain ⟨h3, h4⟩ := hpos t ht
      obtain ⟨v, hv, lv⟩ := hmd _ s h1 (by rw [List.getElem?_eq_getElem h1, h2])
      obtain ⟨w, hw, lw⟩ := hmd _ t h3 (by rw [List.getElem?_eq_getElem h3, h4])
      rw [lv, lw, ← hSame s t hs ht v w hv hw]
      omega
    rw [e1]
    clear e1 hA A
    simp only [R0, RC, zipEnv, Nat.reduceLT, Nat.reduceAdd, Nat.reduceEqDiff, Nat.reduceLeDiff, reduceCtorEq, ↓reduceIte, ares, aresult, pr, Int.reduceEq, Int.reduceLT, Int.reduceLE, Nat.reduceSub, Nat.reduceMul, aFieldAddr, aField, aLoad, aStore, aExtract, aBox, aint, rdVar, rdCells, Value.oneCell', splice, Int.reduceNeg, zvar1, chunks, depth, some_map, Nat.reduceBEq, cf_dyn, okU, Try.f8, rf8]
    generalize hA : aloop _ _ _ _ _ _ _ _ _ _ _ = A
    rcases aloop_list hA [4, 5, 6, 9, 10, 43, 44, 45] (fun j => ⟨[(4, mkL 1 (sRows names)), (5, mkL 1 (nRows O)), (6, .ptr 1 0 0), (9, .ptr 2 0 0), (10, .ptr 3 0 0), (43, mkL 4 (p.rules.map RuleT.c)), (44, .sc (.int .i64 p.rules.length)), (45, .sc (.int .i64 (j : Nat)))], StH md ((p.rules.take j).any fun r => (eachL r.body).any (badS md r)) ((p.rules.take j).any fun r => (eachL r.body).any (cycS md r))⟩) p.rules (fun _ => false) (by omega) rfl (by simp only [R0, RC, zipEnv, Nat.reduceLT, Nat.reduceAdd, Nat.reduceEqDiff, Nat.reduceLeDiff, reduceCtorEq, ↓reduceIte, ares, aresult, pr, Int.reduceEq, Int.reduceLT, Int.reduceLE, Nat.reduceSub, Nat.reduceMul, aFieldAddr, aField, aLoad, aStore, aExtract, aBox, aint, rdVar, rdCells, Value.oneCell', splice, Int.reduceNeg, zvar1, chunks, depth, some_map, Nat.reduceBEq, cf_dyn, okU, Try.f8, rf8, List.take_zero, List.any_nil, StH]; try rfl) (fun j r hj hr hq => by
        have hmem := List.mem_of_getElem? hr
        have hle := hasLet_run r.body (hBd r hmem).1 k (by omega)
        rw [any_take' hr, any_take' hr]
        generalize (p.rules.take j).any (fun r => (eachL r.body).any (badS md r)) = b0
        generalize (p.rules.take j).any (fun r => (eachL r.body).any (cycS md r)) = c0
        have hE := each_run (g := 27) (caps := [.ptr 1 0 0, .ro r.c, .ptr 2 0 0, .ptr 3 0 0, .ro [.sc (.bool (r.body.any isLet))]]) (S := fun i => StH md (b0 || ((eachL r.body).take i).any (badS md r)) (c0 || ((eachL r.body).take i).any (cycS md r))) r (hBd r hmem).1 (hBd r hmem).2 k (by omega) (fun i q strict hq => by
          have hc := clo_strata md (b0 || ((eachL r.body).take i).any (badS md r)) (c0 || ((eachL r.body).take i).any (cycS md r)) r q.1 q.2 (k - 2)
          rw [show k - 2 + 1 = k - 1 by omega] at hc
          rw [cl27]
          refine hc.trans ?_
          rw [any_take' hq, any_take' hq, Bool.or_assoc, Bool.or_assoc])
        simp only [List.take_zero, List.any_nil, Bool.or_false, List.take_length, RuleT.c] at hE
        unfold StH at hE ⊢
        simp only [R0, RC, zipEnv, Nat.reduceLT, Nat.reduceAdd, Nat.reduceEqDiff, Nat.reduceLeDiff, reduceCtorEq, ↓reduceIte, ares, aresult, pr, Int.reduceEq, Int.reduceLT, Int.reduceLE, Nat.reduceSub, Nat.reduceMul, aFieldAddr, aField, aLoad, aStore, aExtract, aBox, aint, rdVar, rdCells, Value.oneCell', splice, Int.reduceNeg, zvar1, chunks, depth, some_map, Nat.reduceBEq, cf_dyn, okU, Try.f8, rf8, RuleT.c, LitT.c, hj, hr, hwR j hj, hle, hE]) (fun j r hj hr hq => by cases hq) (by simp only [R0, RC, zipEnv, Nat.reduceLT, Nat.reduceAdd, Nat.reduceEqDiff, Nat.reduceLeDiff, reduceCtorEq, ↓reduceIte, ares, aresult, pr, Int.reduceEq, Int.reduceLT, Int.reduceLE, Nat.reduceSub, Nat.reduceMul, aFieldAddr, aField, aLoad, aStore, aExtract, aBox, aint, rdVar, rdCells, Value.oneCell', splice, Int.reduceNeg, zvar1, chunks, depth, some_map, Nat.reduceBEq, cf_dyn, okU, Try.f8, rf8]) with ⟨hh, e⟩ | ⟨j, r, hj, hr, hq, hh, e⟩
    rotate_left
    · cases hq
    rw [e, List.take_length]
    clear e hA A
    have hb : ((p.rules.any fun r => (eachL r.body).any (badS md r)) = true) ↔ BadP p := by
      rw [hdefB, List.any_eq_true]
      refine exists_congr fun r => and_congr_right fun hr => ?_
      rw [List.any_eq_true]
      refine exists_congr fun q => and_congr_right fun hq => ?_
      unfold badS
      simp only [Bool.and_eq_true, decide_eq_true_eq, Bool.or_eq_true]
      rw [hlook _ _ (hUse r hr q hq) (hHead r hr)]
    have hc : ((p.rules.any fun r => (eachL r.body).any (cycS md r)) = true) ↔ CycP p := by
      rw [hdefC, List.any_eq_true]
      refine exists_congr fun r => and_congr_right fun hr => ?_
      rw [List.any_eq_true]
      refine exists_congr fun q => and_congr_right fun hq => ?_
      unfold cycS
      simp only [Bool.and_eq_true, decide_eq_true_eq]
      rw [hlook _ _ (hUse r hr q hq) (hHead r hr)]
    have hres := hStr _ _ hb hc
    generalize (p.rules.any fun r => (eachL r.body).any (badS md r)) = bb at *
    generalize (p.rules.any fun r => (eachL r.body).any (cycS md r)) = cc at *
    rw [hres]
    cases bb with
    | true => exact ⟨_, _, _, [], by unfold StH; simp only [R0, RC, zipEnv, Nat.reduceLT, Nat.reduceAdd, Nat.reduceEqDiff, Nat.reduceLeDiff, reduceCtorEq, ↓reduceIte, ares, aresult, pr, Int.reduceEq, Int.reduceLT, Int.reduceLE, Nat.reduceSub, Nat.reduceMul, aFieldAddr, aField, aLoad, aStore, aExtract, aBox, aint, rdVar, rdCells, Value.oneCell', splice, Int.reduceNeg, zvar1, chunks, depth, some_map, Nat.reduceBEq, cf_dyn, okU, Try.f8, rf8]; rfl, rfl, by simp, rfl, rfl⟩
    | false =>
      cases cc with
      | true => exact ⟨_, _, _, [], by unfold StH; simp only [R0, RC, zipEnv, Nat.reduceLT, Nat.reduceAdd, Nat.reduceEqDiff, Nat.reduceLeDiff, reduceCtorEq, ↓reduceIte, ares, aresult, pr, Int.reduceEq, Int.reduceLT, Int.reduceLE, Nat.reduceSub, Nat.reduceMul, aFieldAddr, aField, aLoad, aStore, aExtract, aBox, aint, rdVar, rdCells, Value.oneCell', splice, Int.reduceNeg, zvar1, chunks, depth, some_map, Nat.reduceBEq, cf_dyn, okU, Try.f8, rf8]; rfl, rfl, by simp, rfl, rfl⟩
      | false =>
        unfold StH
        simp only [R0, RC, zipEnv, Nat.reduceLT, Nat.reduceAdd, Nat.reduceEqDiff, Nat.reduceLeDiff, reduceCtorEq, ↓reduceIte, ares, aresult, pr, Int.reduceEq, Int.reduceLT, Int.reduceLE, Nat.reduceSub, Nat.reduceMul, aFieldAddr, aField, aLoad, aStore, aExtract, aBox, aint, rdVar, rdCells, Value.oneCell', splice, Int.reduceNeg, zvar1, chunks, depth, some_map, Nat.reduceBEq, cf_dyn, okU, Try.f8, rf8, hLi, List.length_map]
        generalize hA : aloop _ _ _ _ _ _ _ _ _ _ _ = A
        obtain ⟨v, vs, H, hnest, e2⟩ := strata_out (names := names) hnl (Ls := Ls) (by omega) (fun L hL => by
          obtain ⟨h1, h2⟩ := hLm L hL
          exact ⟨by omega, fun x hx => by have := h2 x hx; omega⟩) (by omega) hA (by simp only [R0, RC, zipEnv, Nat.reduceLT, Nat.reduceAdd, Nat.reduceEqDiff, Nat.reduceLeDiff, reduceCtorEq, ↓reduceIte, ares, aresult, pr, Int.reduceEq, Int.reduceLT, Int.reduceLE, Nat.reduceSub, Nat.reduceMul, aFieldAddr, aField, aLoad, aStore, aExtract, aBox, aint, rdVar, rdCells, Value.oneCell', splice, Int.reduceNeg, zvar1, chunks, depth, some_map, Nat.reduceBEq, cf_dyn, okU, Try.f8, rf8]; try rfl)
        rw [e2]
        refine ⟨_, _, _, _, by simp only [R0, RC, zipEnv, Nat.reduceLT, Nat.reduceAdd, Nat.reduceEqDiff, Nat.reduceLeDiff, reduceCtorEq, ↓reduceIte, ares, aresult, pr, Int.reduceEq, Int.reduceLT, Int.reduceLE, Nat.reduceSub, Nat.reduceMul, aFieldAddr, aField, aLoad, aStore, aExtract, aBox, aint, rdVar, rdCells, Value.oneCell', splice, Int.reduceNeg, zvar1, chunks, depth, some_map, Nat.reduceBEq, cf_dyn, okU, Try.f8, rf8], rfl, ?_, hnest.rb (fun r hr q hq => ?_) 36, hnest.deep (k := 36) (fun r hr q hq => ?_)⟩
        · rw [List.length_map, List.length_map]; exact hLl
        · obtain ⟨L, _, rfl⟩ := List.mem_map.1 hr
          exact ⟨sRows_row q hq, fun x hx => (sRows_stay q hq x hx).1⟩
        · obtain ⟨L, _, rfl⟩ := List.mem_map.1 hr
          exact ⟨sRows_row q hq, fun x hx => (sRows_stay q hq x hx).2⟩
  obtain ⟨v, x, H', rows, e, hx, hrl, hr, hd⟩ := key
  refine ⟨rows, hrl, val_of e ?_ ?_⟩
  · subst hx
    unfold freshR
    rw [Bool.or_eq_true]
    right
    have e40 : ∀ xs, deepF H' (39 + 1) (.tup xs) = xs.all (deepF H' 39) := fun _ => rfl
    rw [show (40 : Nat) = 39 + 1 from rfl, e40]
    simp only [List.all_cons, List.all_nil, hd, Bool.true_and, Bool.and_true]
    rfl
  subst hx
  have e39 : depth = 39 + 1 := rfl
  have hx : Go.Proofs.YtigfnhbbfbnicaaA.rb H' 39 (.sc (.int .i64 (strE p))) = some (.sc (.int .i64 (strE p))) := rfl
  have ht : ∀ xs, Go.Proofs.YtigfnhbbfbnicaaA.rb H' (39 + 1) (.tup xs) = (amap (Go.Proofs.YtigfnhbbfbnicaaA.rb H' 39) xs).map .tup := fun _ => rfl
  rw [e39, ht]
  simp only [amap, hr, hx, Option.map_some]
end Go.Proofs.YtigfnhbbfbnicaaA
