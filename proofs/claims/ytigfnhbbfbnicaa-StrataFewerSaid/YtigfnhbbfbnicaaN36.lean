/- A part of the proof of StrataFewer: functions of the program, run by the evaluator. -/

/- strata.Strata. -/
import Derived.Test.YtigfnhbbfbnicaaN35
namespace Go.Proofs.YtigfnhbbfbnicaaA
open Go Go.RowKit
set_option linter.all false
set_option linter.unusedSectionVars false
set_option linter.constructorNameAsVariable false
set_option linter.unusedVariables false
set_option linter.unusedSimpArgs false
def sameP (p : ProgT) (s t : ByteArray) : Prop := Mu (needsE p) (posS (namesT p) s) (posS (namesT p) t)
def BadP (p : ProgT) : Prop := ∃ r ∈ p.rules, ∃ q ∈ eachL r.body, sameP p q.2 r.head.p ∧ (q.1.k = 2 ∨ 0 < r.fold)
def CycP (p : ProgT) : Prop := ∃ r ∈ p.rules, ∃ q ∈ eachL r.body, sameP p q.2 r.head.p ∧ r.body.any isLet = true
open Classical in
noncomputable def strE (p : ProgT) : Int := if BadP p then 8 else if CycP p then 9 else 0
def nmL (names : List ByteArray) (L : List Nat) : List ByteArray := L.map fun i => names[i]?.getD default
theorem nmL_take {names : List ByteArray} {L : List Nat} {i x : Nat} {t : ByteArray} (h : L[i]? = some x) (ht : names[x]? = some t) : nmL names (L.take (i + 1)) = nmL names (L.take i) ++ [t] := by
  obtain ⟨hi, rfl⟩ := List.getElem?_eq_some_iff.1 h
  unfold nmL
  rw [List.take_succ_eq_append_getElem hi, List.map_append]
  simp [ht]
theorem outS_fresh {eo : TypeId} {H : List Blk} {v : AV} {vs : List AV} {ls : List (List (List AV))} (h : NestAt eo 9 H v vs ls) : blkOf v ≠ some H.length ∧ ∀ (i : Nat) w, vs[i]? = some w → blkOf w ≠ some H.length := by
  refine ⟨fun e => ?_, fun i w hw e => ?_⟩
  · have := blkOf_lt h.top e
    omega
  · obtain ⟨r, _, ho⟩ := h.at_ hw
    have := blkOf_lt ho e
    omega
set_option maxHeartbeats 2000000 in
theorem strata_out {names : List ByteArray} (hn : names.length ≤ 1000) {Ls : List (List Nat)} (hLs : Ls.length ≤ 1000) (hmem : ∀ L ∈ Ls, L.length ≤ 1000 ∧ ∀ x ∈ L, x < names.length) {k : Nat} (hk : 3000 ≤ k) {jump : Code → Code → St → Option (AX × St)} {s0 : St} {R : Option (AX × St)} {H0 : List Blk}
    (h : aloop Try.prog (acall cf.mode false (arun Try.prog cf k)) (acall cf.mode true (arun Try.prog cf k)) jump (pureOf cf.mode) (cf.dyn 8) (cf.keep 8) 87 k (loopAt Try.f8 22) s0 = R)
    (h0 : pr [4, 14, 61, 62, 63] s0 = ⟨[(4, mkL 1 (sRows names)), (14, .sc (.slice none 0 0)), (61, mkL 1 (Ls.map fun L => [mkL 1 (nRows L)])), (62, .sc (.int .i64 Ls.length)), (63, .sc (.int .i64 0))], H0⟩) :
    ∃ v vs H, NestAt 34 9 H v vs (Ls.map fun L => sRows (nmL names L)) ∧ R = some (.exit 5, ⟨[(4, mkL 1 (sRows names)), (14, v), (61, mkL 1 (Ls.map fun L => [mkL 1 (nRows L)])), (62, .sc (.int .i64 Ls.length)), (63, .sc (.int .i64 Ls.length)), (64, .sc (.bool false))], H⟩) := by
  have hw := wraps (n := Ls.length) (by omega)
  have e1 := aloop_inv2 h [4, 14, 61, 62, 63] (fun j s => ∃ v vs H, NestAt 34 9 H v vs ((Ls.take j).map fun L => sRows (nmL names L)) ∧ s = ⟨[(4, mkL 1 (sRows names)), (14, v), (61, mkL 1 (Ls.map fun L => [mkL 1 (nRows L)])), (62, .sc (.int .i64 Ls.length)), (63, .sc (.int .i64 (j : Nat)))], H⟩) Ls.length (by omega) rfl ⟨_, [], _, NestAt.nil, h0⟩ (fun j hj s ⟨v, vs, H, hnest, hs⟩ => by
      subst hs
      obtain ⟨L, hL⟩ : ∃ L, L = Ls[j] := ⟨_, rfl⟩
      have xj : Ls[j]? = some L := by rw [hL]; exact List.getElem?_eq_getElem hj
      obtain ⟨hLl, hLx⟩ := hmem L (List.mem_of_getElem? xj)
      have hw2 := wraps (n := L.length) (by omega)
      have hrow : (Ls.map fun L => [mkL 1 (nRows L)])[j]? = some [mkL 1 (nRows L)] := by rw [List.getElem?_map, xj]; rfl
      simp only [R0, RC, zipEnv, Nat.reduceLT, Nat.reduceAdd, Nat.reduceEqDiff, Nat.reduceLeDiff, reduceCtorEq, ↓reduceIte, ares, aresult, pr, Int.reduceEq, Int.reduceLT, Int.reduceLE, Nat.reduceSub, Nat.reduceMul, aFieldAddr, aField, aLoad, aStore, aExtract, aBox, aint, rdVar, rdCells, Value.oneCell', splice, Int.reduceNeg, zvar1, chunks, depth, some_map, Nat.reduceBEq, cf_dyn, okU, Try.f8, rf8, loopAt, findLoop, firstId, Option.getD_some, Option.some.injEq, Nat.reduceEqDiff, if_false, if_true, hj, hrow, hw j hj, List.length_map]
      generalize hB : aloop _ _ _ _ _ _ _ _ _ _ _ = B
      rcases aloop_list hB [4, 14, 17, 61, 62, 63, 67, 68, 69] (fun i => ⟨[(4, mkL 1 (sRows names)), (14, v), (17, accV H.length 1 (sRows (nmL names (L.take i)))), (61, mkL 1 (Ls.map fun L => [mkL 1 (nRows L)])), (62, .sc (.int .i64 Ls.length)), (63, .sc (.int .i64 (j : Nat))), (67, mkL 1 (nRows L)), (68, .sc (.int .i64 L.length)), (69, .sc (.int .i64 (i : Nat)))], H ++ accB 9 1 (sRows (nmL names (L.take i)))⟩) L (fun _ => false) (by omega) rfl (by simp only [R0, RC, zipEnv, Nat.reduceLT, Nat.reduceAdd, Nat.reduceEqDiff, Nat.reduceLeDiff, reduceCtorEq, ↓reduceIte, ares, aresult, pr, Int.reduceEq, Int.reduceLT, Int.reduceLE, Nat.reduceSub, Nat.reduceMul, aFieldAddr, aField, aLoad, aStore, aExtract, aBox, aint, rdVar, rdCells, Value.oneCell', splice, Int.reduceNeg, zvar1, chunks, depth, some_map, Nat.reduceBEq, cf_dyn, okU, Try.f8, rf8, List.take_zero, nmL, sRows, List.map_nil, accV_nil, accB_nil, List.append_nil]; try rfl) (fun i x hi hx hq => by
          have hxn := hLx x (List.mem_of_getElem? hx)
          obtain ⟨t, ht⟩ : ∃ t, names[x]? = some t := ⟨_, List.getElem?_eq_getElem hxn⟩
          have hnt := nmL_take hx ht
          have hll : (nmL names (L.take i)).length ≤ 1000 := by unfold nmL; rw [List.length_map, List.length_take]; omega
          have happ := acc1 (P := Try.prog) (H := H) (rows := sRows (nmL names (L.take i))) (r := [.sc (.string t)]) ro34 sRows_row rfl rfl (by simp; omega) (by simp [maxLen]; omega)
          have e2 : sRows (nmL names (L.take i)) ++ [[.sc (.string t)]] = sRows (nmL names (L.take (i + 1))) := by rw [hnt]; simp [sRows, sC]
          rw [e2] at happ
          simp only [R0, RC, zipEnv, Nat.reduceLT, Nat.reduceAdd, Nat.reduceEqDiff, Nat.reduceLeDiff, reduceCtorEq, ↓reduceIte, ares, aresult, pr, Int.reduceEq, Int.reduceLT, Int.reduceLE, Nat.reduceSub, Nat.reduceMul, aFieldAddr, aField, aLoad, aStore, aExtract, aBox, aint, rdVar, rdCells, Value.oneCell', splice, Int.reduceNeg, zvar1, chunks, depth, some_map, Nat.reduceBEq, cf_dyn, okU, Try.f8, rf8, hi, hx, hw2 i hi, ht, sC, happ]) (fun i x hi hx hq => by cases hq) (by simp only [R0, RC, zipEnv, Nat.reduceLT, Nat.reduceAdd, Nat.reduceEqDiff, Nat.reduceLeDiff, reduceCtorEq, ↓reduceIte, ares, aresult, pr, Int.reduceEq, Int.reduceLT, Int.reduceLE, Nat.reduceSub, Nat.reduceMul, aFieldAddr, aField, aLoad, aStore, aExtract, aBox, aint, rdVar, rdCells, Value.oneCell', splice, Int.reduceNeg, zvar1, chunks, depth, some_map, Nat.reduceBEq, cf_dyn, okU, Try.f8, rf8]) with ⟨hh, e⟩ | ⟨i, x, hi, hx, hq, hh, e⟩
      rotate_left
      · cases hq
      rw [e, List.take_length]
      have hnl : (nmL names L).length = L.length := by unfold nmL; simp
      have hlen : ((Ls.take j).map fun L => sRows (nmL names L)).length = j := by rw [List.length_map, List.length_take]; omega
      have hnext : (Ls.take (j + 1)).map (fun L => sRows (nmL names L)) = (Ls.take j).map (fun L => sRows (nmL names L)) ++ [sRows (nmL names L)] := by
        rw [hL, List.take_succ_eq_append_getElem hj, List.map_append]
        rfl
      obtain ⟨fr1, fr2⟩ := outS_fresh hnest
      by_cases hLe : L = []
      · subst hLe
        have e0 : sRows (nmL names []) = [] := rfl
        rw [e0, accV_nil, accB_nil, List.append_nil]
        rw [e0] at hnext
        obtain ⟨v', H', q1, q2, q3⟩ := hnest.push (to := 30) (x := .sc (.slice none 0 0)) (r := []) ro30 (by rw [hlen]; omega) (by rw [hlen]; unfold maxLen; omega) (.inl ⟨rfl, rfl⟩) (fun c h => by cases h) (fun i w c _ _ h => by cases h)
        refine ⟨_, by simp only [R0, RC, zipEnv, Nat.reduceLT, Nat.reduceAdd, Nat.reduceEqDiff, Nat.reduceLeDiff, reduceCtorEq, ↓reduceIte, ares, aresult, pr, Int.reduceEq, Int.reduceLT, Int.reduceLE, Nat.reduceSub, Nat.reduceMul, aFieldAddr, aField, aLoad, aStore, aExtract, aBox, aint, rdVar, rdCells, Value.oneCell', splice, Int.reduceNeg, zvar1, chunks, depth, some_map, Nat.reduceBEq, cf_dyn, okU, Try.f8, rf8, hw j hj, q1], v', vs ++ [.sc (.slice none 0 0)], H', ?_, rfl⟩
        rw [hnext]
        exact q2
      · have hne : sRows (nmL names L) ≠ [] := by
          intro e
          have := congrArg List.length e
          rw [List.length_map, hnl] at this
          exact hLe (List.eq_nil_of_length_eq_zero this)
        have hV : accV H.length 1 (sRows (nmL names L)) = .own H.length 0 L.length 1 (L.length - 1) := by
          unfold accV
          rw [if_neg hne, List.length_map, hnl]
        have hBk : accB 9 1 (sRows (nmL names L)) = [⟨9, 1, L.length - 1, true, (sRows (nmL names L)).flatten, .cells⟩] := by
          unfold accB
          rw [if_neg hne, List.length_map, hnl]
        rw [hV, hBk]
        obtain ⟨H2, hH2⟩ : ∃ H2, H2 = H ++ [⟨9, 1, L.length - 1, true, (sRows (nmL names L)).flatten, .cells⟩, ⟨34, 1, 0, true, [.own H.length 0 L.length 1 (L.length - 1)], .cells⟩] := ⟨_, rfl⟩
        have hk2 : NestAt 34 9 H2 v vs ((Ls.take j).map fun L => sRows (nmL names L)) := hnest.keep fun c hc => by rw [hH2, List.getElem?_append_left hc]
        have hout : OutAt 9 1 H2 (.own H.length 0 L.length 1 (L.length - 1)) (sRows (nmL names L)) := .inr ⟨hne, H.length, L.length - 1, by rw [List.length_map, hnl], by
          rw [hH2, List.getElem?_append_right (Nat.le_refl _), Nat.sub_self]
          rfl⟩
        obtain ⟨v', H', q1, q2, q3⟩ := hk2.push (to := 30) (x := .own H.length 0 L.length 1 (L.length - 1)) (r := sRows (nmL names L)) ro30 (by rw [hlen]; omega) (by rw [hlen]; unfold maxLen; omega) hout (fun c h => by cases h; exact fr1) (fun i w c hw hc h => by cases h; exact fr2 i w hw hc)
        have htb : H2[H.length + 1]? = some ⟨34, 1, 0, true, [.own H.length 0 L.length 1 (L.length - 1)], .cells⟩ := by
          rw [hH2, List.getElem?_append_right (by omega), show H.length + 1 - H.length = 1 by omega]
          rfl
        have hel : ∀ z, elems H2 (.own (H.length + 1) 0 1 1 0) z = elems H2 (mkL 1 [[.own H.length 0 L.length 1 (L.length - 1)]]) z := fun z => by
          simp only [elems, mkL]
          rw [blkAt_some' htb rfl rfl]
          by_cases hz : 1 = z
          · subst hz; rfl
          · simp [hz]
        rw [← app_same hel] at q1
        have hH3 : H ++ [⟨9, 1, L.length - 1, true, (sRows (nmL names L)).flatten, .cells⟩] ++ [⟨34, 1, 0, true, [.own H.length 0 L.length 1 (L.length - 1)], .cells⟩] = H2 := by
          rw [hH2, List.append_assoc]
          rfl
        have hpv : ∀ b o l s v, pv 40 (AV.own b o l s v) = false := fun _ _ _ _ _ => rfl
        refine ⟨_, by simp only [R0, RC, zipEnv, Nat.reduceLT, Nat.reduceAdd, Nat.reduceEqDiff, Nat.reduceLeDiff, reduceCtorEq, ↓reduceIte, ares, aresult, pr, Int.reduceEq, Int.reduceLT, Int.reduceLE, Nat.reduceSub, Nat.reduceMul, aFieldAddr, aField, aLoad, aStore, aExtract, aBox, aint, rdVar, rdCells, Value.oneCell', splice, Int.reduceNeg, zvar1, chunks, depth, some_map, Nat.reduceBEq, cf_dyn, okU, Try.f8, rf8, hw j hj, List.length_append, List.length_singleton, hpv, hH3, q1], v', vs ++ [.own H.length 0 L.length 1 (L.length - 1)], H', ?_, rfl⟩
        rw [hnext]
        exact q2) (fun s ⟨v, vs, H, hnest, hs⟩ => by
      subst hs
      simp only [R0, RC, zipEnv, Nat.reduceLT, Nat.reduceAdd, Nat.reduceEqDiff, Nat.reduceLeDiff, reduceCtorEq, ↓reduceIte, ares, aresult, pr, Int.reduceEq, Int.reduceLT, Int.reduceLE, Nat.reduceSub, Nat.reduceMul, aFieldAddr, aField, aLoad, aStore, aExtract, aBox, aint, rdVar, rdCells, Value.oneCell', splice, Int.reduceNeg, zvar1, chunks, depth, some_map, Nat.reduceBEq, cf_dyn, okU, Try.f8, rf8, loopAt, findLoop, firstId, Option.getD_some, Option.some.injEq, Nat.reduceEqDiff, if_false, if_true, List.length_map])
  obtain ⟨s, ⟨v, vs, H, hnest, hs⟩, e⟩ := e1
  subst hs
  rw [List.take_length] at hnest
  refine ⟨v, vs, H, hnest, ?_⟩
  rw [e]
  simp only [R0, RC, zipEnv, Nat.reduceLT, Nat.reduceAdd, Nat.reduceEqDiff, Nat.reduceLeDiff, reduceCtorEq, ↓reduceIte, ares, aresult, pr, Int.reduceEq, Int.reduceLT, Int.reduceLE, Nat.reduceSub, Nat.reduceMul, aFieldAddr, aField, aLoad, aStore, aExtract, aBox, aint, rdVar, rdCells, Value.oneCell', splice, Int.reduceNeg, zvar1, chunks, depth, some_map, Nat.reduceBEq, cf_dyn, okU, Try.f8, rf8, loopAt, findLoop, firstId, Option.getD_some, Option.some.injEq, Nat.reduceEqDiff, if_false, if_true, List.length_map]
end Go.Proofs.YtigfnhbbfbnicaaA
