/- strata.sorted, strata.Uses. -/
import Derived.Test.YtpgipdajinkdgaaGreatSrt
namespace Go.Proofs.YtpgipdajinkdgaaGreatA
open Go Go.RowKit
set_option linter.all false
set_option linter.unusedSectionVars false
set_option linter.constructorNameAsVariable false
set_option linter.unusedVariables false
set_option linter.unusedSimpArgs false
abbrev sRows (l : List ByteArray) : List (List AV) := l.map sC
theorem sRows_flat (l : List ByteArray) : (sRows l).flatten = l.map sstr := cells_sstr l
theorem sorted_run {H : List Blk} {e : TypeId} {x : AV} {l : List ByteArray} (hx : OutAt e 1 H x (sRows l)) (hl : l.length < 4611686018427387904) (k : Nat) (hk : 2 ≤ k) :
    ∃ v H', arun Tryz.prog cf k 65 [x] H = some (v, H') ∧ HeadAt 1 H' v (sRows (Ord.sorted l)) := by
  obtain ⟨k, rfl⟩ : ∃ j, k = j + 2 := ⟨k - 2, by omega⟩
  rcases hx with ⟨h0, rfl⟩ | ⟨hne, b, ver, rfl, hb⟩
  · obtain rfl : l = [] := by simpa using h0
    refine ⟨.sc (.slice none 0 0), H, ?_, .inl ⟨rfl, rfl⟩⟩
    rw [arun_body rfl rfl Tryz.func65 rfl (N := 7) rfl]
    simp only [R0, RC, zipEnv, Nat.reduceLT, Nat.reduceAdd, Nat.reduceEqDiff, Nat.reduceLeDiff, reduceCtorEq, ↓reduceIte, ares, aresult, pr, Int.reduceEq, Int.reduceLT, Int.reduceLE, Nat.reduceSub, Nat.reduceMul, aFieldAddr, aField, aLoad, aStore, aExtract, aBox, aint, rdVar, rdCells, Value.oneCell', splice, Int.reduceNeg, zvar1, chunks, depth, some_map, Nat.reduceBEq, cf_dyn, okU, Tryz.f65, rf65, pm98, pm99, sortPrim, compactPrim, ownStrs]
  · rw [sRows_flat] at hb
    have hlen : (sRows l).length = l.length := by simp
    have h1 := sortPrim_own hb hl
    have hb2 : (H.set b ⟨e, 1, ver, true, (Ord.sortS l).map sstr, .cells⟩)[b]? = some ⟨e, 1, ver, true, (Ord.sortS l).map sstr, .cells⟩ := by
      have : b < H.length := by rcases Nat.lt_or_ge b H.length with h | h; exact h; rw [List.getElem?_eq_none h] at hb; cases hb
      rw [List.getElem?_set_self this]
    have h2 := compactPrim_own hb2 (by rw [Ord.sortS_len]; exact hl)
    rw [Ord.sortS_len, Ord.compS_sortS] at h2
    have hbl : b < H.length := by rcases Nat.lt_or_ge b H.length with h | h; exact h; rw [List.getElem?_eq_none h] at hb; cases hb
    refine ⟨.own b 0 (Ord.sorted l).length 1 ver, (H.set b ⟨e, 1, ver, true, (Ord.sortS l).map sstr, .cells⟩).set b ⟨e, 1, ver, true, (Ord.sorted l).map sstr ++ (List.replicate (l.length - (Ord.sorted l).length) ⟨#[]⟩).map sstr, .cells⟩, ?_, .inr ⟨b, ver, e, (List.replicate (l.length - (Ord.sorted l).length) ⟨#[]⟩).map sstr, by rw [List.length_map], ?_⟩⟩
    · rw [hlen]
      rw [arun_body rfl rfl Tryz.func65 rfl (N := 7) rfl]
      simp only [R0, RC, zipEnv, Nat.reduceLT, Nat.reduceAdd, Nat.reduceEqDiff, Nat.reduceLeDiff, reduceCtorEq, ↓reduceIte, ares, aresult, pr, Int.reduceEq, Int.reduceLT, Int.reduceLE, Nat.reduceSub, Nat.reduceMul, aFieldAddr, aField, aLoad, aStore, aExtract, aBox, aint, rdVar, rdCells, Value.oneCell', splice, Int.reduceNeg, zvar1, chunks, depth, some_map, Nat.reduceBEq, cf_dyn, okU, Tryz.f65, rf65, pm98, pm99, h1, h2]
    · rw [List.getElem?_set_self (by rw [List.length_set]; exact hbl), sRows_flat]
def labs (l : List StepT) : List ByteArray := (l.map (·.l)).filter fun s => !decide (s = .empty)
theorem labs_snoc {l : List StepT} {j : Nat} {x : StepT} (hx : l[j]? = some x) : labs (l.take (j + 1)) = labs (l.take j) ++ (if x.l = .empty then [] else [x.l]) := by
  obtain ⟨hj, rfl⟩ := List.getElem?_eq_some_iff.1 hx
  unfold labs
  rw [List.take_succ_eq_append_getElem hj, List.map_append, List.filter_append]
  congr 1
  by_cases h : l[j].l = .empty <;> simp [h]
theorem labs_len (l : List StepT) : (labs l).length ≤ l.length := by
  unfold labs
  exact Nat.le_trans (List.length_filter_le _ _) (by simp)
def usesT (l : LitT) : List ByteArray := Ord.sorted (if l.k = 1 ∨ l.k = 2 then [l.a.p] else if l.k = 5 then labs l.path else [])
theorem sRows_row {l : List ByteArray} : ∀ r ∈ sRows l, r.length = 1 := fun r hr => by
  obtain ⟨s, _, rfl⟩ := List.mem_map.1 hr
  rfl
theorem sRows_stay {l : List ByteArray} : ∀ r ∈ sRows l, ∀ x ∈ r, Stays x ∧ ∃ u, x = .sc u := fun r hr x hx => by
  obtain ⟨s, _, rfl⟩ := List.mem_map.1 hr
  simp only [sC, List.mem_singleton] at hx
  subst hx
  exact ⟨stays_str, _, rfl⟩
theorem uses_run (l : LitT) (hl : l.path.length ≤ 1000) (k : Nat) (hk : 1005 ≤ k) : val Tryz.prog cf k 97 [.agg l.c] = some (mkL 1 (sRows (usesT l))) := by
  obtain ⟨k, rfl⟩ : ∃ j, k = j + 1 := ⟨k - 1, by omega⟩
  have key : ∀ (r : List ByteArray), (∃ v0 H0, OutAt 9 1 H0 v0 (sRows r) ∧ ∀ v H', arun Tryz.prog cf k 65 [v0] H0 = some (v, H') → arun Tryz.prog cf (k + 1) 97 [.agg l.c] [] = some (v, H')) → r.length ≤ 1000 → val Tryz.prog cf (k + 1) 97 [.agg l.c] = some (mkL 1 (sRows (Ord.sorted r))) := by
    rintro r ⟨v0, H0, ho, h⟩ hr
    obtain ⟨v, H', e, hh⟩ := sorted_run ho (by omega) k (by omega)
    exact val_head (h v H' e) hh sRows_row sRows_stay
  unfold usesT
  have ha := acc1_0 (P := Tryz.prog) (rows := []) (r := sC l.a.p) ro36 (fun _ h => by cases h) rfl rfl (by decide) (by decide)
  simp only [accV_nil, accB_nil, List.nil_append, sC] at ha
  by_cases h1 : l.k = 1
  · rw [if_pos (.inl h1)]
    refine key _ ⟨_, _, acc_out0, fun v H' e => ?_⟩ (by simp)
    simp only [sRows, List.map_cons, List.map_nil, sC] at e
    rw [arun_body rfl rfl Tryz.func97 rfl (N := 37) rfl]
    simp only [R0, RC, zipEnv, Nat.reduceLT, Nat.reduceAdd, Nat.reduceEqDiff, Nat.reduceLeDiff, reduceCtorEq, ↓reduceIte, ares, aresult, pr, Int.reduceEq, Int.reduceLT, Int.reduceLE, Nat.reduceSub, Nat.reduceMul, aFieldAddr, aField, aLoad, aStore, aExtract, aBox, aint, rdVar, rdCells, Value.oneCell', splice, Int.reduceNeg, zvar1, chunks, depth, some_map, Nat.reduceBEq, cf_dyn, okU, Tryz.f97, rf97, LitT.c, h1, ha, e]
  by_cases h2 : l.k = 2
  · rw [if_pos (.inr h2)]
    refine key _ ⟨_, _, acc_out0, fun v H' e => ?_⟩ (by simp)
    simp only [sRows, List.map_cons, List.map_nil, sC] at e
    rw [arun_body rfl rfl Tryz.func97 rfl (N := 37) rfl]
    simp only [R0, RC, zipEnv, Nat.reduceLT, Nat.reduceAdd, Nat.reduceEqDiff, Nat.reduceLeDiff, reduceCtorEq, ↓reduceIte, ares, aresult, pr, Int.reduceEq, Int.reduceLT, Int.reduceLE, Nat.reduceSub, Nat.reduceMul, aFieldAddr, aField, aLoad, aStore, aExtract, aBox, aint, rdVar, rdCells, Value.oneCell', splice, Int.reduceNeg, zvar1, chunks, depth, some_map, Nat.reduceBEq, cf_dyn, okU, Tryz.f97, rf97, LitT.c, h1, h2, ha, e]
  rw [if_neg (fun h => h.elim h1 h2)]
  by_cases h5 : l.k = 5
  case neg =>
    rw [if_neg h5]
    refine key _ ⟨.sc (.slice none 0 0), [], .inl ⟨rfl, rfl⟩, fun v H' e => ?_⟩ (by simp)
    rw [arun_body rfl rfl Tryz.func97 rfl (N := 37) rfl]
    simp only [R0, RC, zipEnv, Nat.reduceLT, Nat.reduceAdd, Nat.reduceEqDiff, Nat.reduceLeDiff, reduceCtorEq, ↓reduceIte, ares, aresult, pr, Int.reduceEq, Int.reduceLT, Int.reduceLE, Nat.reduceSub, Nat.reduceMul, aFieldAddr, aField, aLoad, aStore, aExtract, aBox, aint, rdVar, rdCells, Value.oneCell', splice, Int.reduceNeg, zvar1, chunks, depth, some_map, Nat.reduceBEq, cf_dyn, okU, Tryz.f97, rf97, LitT.c, h1, h2, h5, e]
  rw [if_pos h5]
  refine key _ ⟨_, _, acc_out0, fun v H' e => ?_⟩ (Nat.le_trans (labs_len _) hl)
  rw [arun_body rfl rfl Tryz.func97 rfl (N := 37) rfl]
  have hw := wraps (n := l.path.length) (by omega)
  simp only [R0, RC, zipEnv, Nat.reduceLT, Nat.reduceAdd, Nat.reduceEqDiff, Nat.reduceLeDiff, reduceCtorEq, ↓reduceIte, ares, aresult, pr, Int.reduceEq, Int.reduceLT, Int.reduceLE, Nat.reduceSub, Nat.reduceMul, aFieldAddr, aField, aLoad, aStore, aExtract, aBox, aint, rdVar, rdCells, Value.oneCell', splice, Int.reduceNeg, zvar1, chunks, depth, some_map, Nat.reduceBEq, cf_dyn, okU, Tryz.f97, rf97, LitT.c, h1, h2, h5]
  generalize hA : aloop _ _ _ _ _ _ _ _ _ _ _ = A
  rcases aloop_list hA [3, 20, 21, 22] (fun j => ⟨[(3, accV 0 1 (sRows (labs (l.path.take j)))), (20, mkL 2 (l.path.map StepT.c)), (21, .sc (.int .i64 l.path.length)), (22, .sc (.int .i64 (j : Nat)))], accB 9 1 (sRows (labs (l.path.take j)))⟩) l.path (fun _ => false) (by omega) rfl rfl (fun j x hj hx hq => by
      have hs := labs_snoc hx
      have hlen := labs_len (l.path.take j)
      rw [List.length_take] at hlen
      by_cases hx0 : x.l = .empty
      · rw [if_pos hx0, List.append_nil] at hs
        simp only [R0, RC, zipEnv, Nat.reduceLT, Nat.reduceAdd, Nat.reduceEqDiff, Nat.reduceLeDiff, reduceCtorEq, ↓reduceIte, ares, aresult, pr, Int.reduceEq, Int.reduceLT, Int.reduceLE, Nat.reduceSub, Nat.reduceMul, aFieldAddr, aField, aLoad, aStore, aExtract, aBox, aint, rdVar, rdCells, Value.oneCell', splice, Int.reduceNeg, zvar1, chunks, depth, some_map, Nat.reduceBEq, cf_dyn, okU, Tryz.f97, rf97, StepT.c, hj, hx, hw j hj, hx0, hs]
      · rw [if_neg hx0] at hs
        have hb := acc1_0 (P := Tryz.prog) (rows := sRows (labs (l.path.take j))) (r := sC x.l) ro36 sRows_row rfl rfl (by rw [List.length_map]; omega) (by rw [List.length_map]; unfold maxLen; omega)
        have e2 : sRows (labs (l.path.take (j + 1))) = sRows (labs (l.path.take j)) ++ [sC x.l] := by rw [hs]; simp [sRows]
        rw [← e2] at hb
        simp only [sC] at hb
        simp only [R0, RC, zipEnv, Nat.reduceLT, Nat.reduceAdd, Nat.reduceEqDiff, Nat.reduceLeDiff, reduceCtorEq, ↓reduceIte, ares, aresult, pr, Int.reduceEq, Int.reduceLT, Int.reduceLE, Nat.reduceSub, Nat.reduceMul, aFieldAddr, aField, aLoad, aStore, aExtract, aBox, aint, rdVar, rdCells, Value.oneCell', splice, Int.reduceNeg, zvar1, chunks, depth, some_map, Nat.reduceBEq, cf_dyn, okU, Tryz.f97, rf97, StepT.c, hj, hx, hw j hj, hx0, hb]) (fun j x hj hx hq => by cases hq) (by simp only [R0, RC, zipEnv, Nat.reduceLT, Nat.reduceAdd, Nat.reduceEqDiff, Nat.reduceLeDiff, reduceCtorEq, ↓reduceIte, ares, aresult, pr, Int.reduceEq, Int.reduceLT, Int.reduceLE, Nat.reduceSub, Nat.reduceMul, aFieldAddr, aField, aLoad, aStore, aExtract, aBox, aint, rdVar, rdCells, Value.oneCell', splice, Int.reduceNeg, zvar1, chunks, depth, some_map, Nat.reduceBEq, cf_dyn, okU, Tryz.f97, rf97]) with ⟨h, e1⟩ | ⟨j, x, hj, hx, hq, h, e1⟩
  · rw [e1, List.take_length]
    simp only [R0, RC, zipEnv, Nat.reduceLT, Nat.reduceAdd, Nat.reduceEqDiff, Nat.reduceLeDiff, reduceCtorEq, ↓reduceIte, ares, aresult, pr, Int.reduceEq, Int.reduceLT, Int.reduceLE, Nat.reduceSub, Nat.reduceMul, aFieldAddr, aField, aLoad, aStore, aExtract, aBox, aint, rdVar, rdCells, Value.oneCell', splice, Int.reduceNeg, zvar1, chunks, depth, some_map, Nat.reduceBEq, cf_dyn, okU, Tryz.f97, rf97, e]
  · cases hq
end Go.Proofs.YtpgipdajinkdgaaGreatA

namespace Go.Proofs.YtpgipdajinkdgaaGreatA
open Go Go.RowKit
set_option linter.all false
set_option linter.unusedSectionVars false
set_option linter.constructorNameAsVariable false
set_option linter.unusedVariables false
set_option linter.unusedSimpArgs false
def eachL (ls : List LitT) : List (LitT × ByteArray) := ls.flatMap fun l => (usesT l).map fun s => (l, s)
theorem usesT_len (l : LitT) : (usesT l).length ≤ l.path.length + 1 := by
  unfold usesT
  refine Nat.le_trans (Ord.nsort_len_le _) ?_
  have := labs_len l.path
  split
  · simp
  · split
    · omega
    · simp
theorem eachL_take {ls : List LitT} {j : Nat} {l : LitT} (h : ls[j]? = some l) : eachL (ls.take (j + 1)) = eachL (ls.take j) ++ (usesT l).map fun s => (l, s) := by
  obtain ⟨hj, rfl⟩ := List.getElem?_eq_some_iff.1 h
  unfold eachL
  rw [List.take_succ_eq_append_getElem hj, List.flatMap_append]
  simp
theorem eachL_at {ls : List LitT} {j i : Nat} {l : LitT} {s : ByteArray} (h : ls[j]? = some l) (hs : (usesT l)[i]? = some s) : (eachL ls)[(eachL (ls.take j)).length + i]? = some (l, s) := by
  obtain ⟨hj, rfl⟩ := List.getElem?_eq_some_iff.1 h
  have e : eachL ls = eachL (ls.take j) ++ ((usesT ls[j]).map (fun s => (ls[j], s)) ++ eachL (ls.drop (j + 1))) := by
    unfold eachL
    conv => lhs; rw [← List.take_append_drop j ls, List.flatMap_append, List.drop_eq_getElem_cons hj, List.flatMap_cons]
  have hi : i < (usesT ls[j]).length := by
    rcases Nat.lt_or_ge i (usesT ls[j]).length with h | h
    · exact h
    · rw [List.getElem?_eq_none h] at hs; cases hs
  rw [e, List.getElem?_append_right (by omega), Nat.add_sub_cancel_left, List.getElem?_append_left (by simpa using hi), List.getElem?_map, hs]
  rfl
theorem each_run {g : FuncId} {caps : List AV} {S : Nat → List Blk} (x : RuleT) (hb : x.body.length ≤ 1000) (hp : ∀ l ∈ x.body, l.path.length ≤ 900) (k : Nat) (hk : 1010 ≤ k)
    (hc : ∀ i p strict, (eachL x.body)[i]? = some p → callR Tryz.prog (acall cf.mode strict (arun Tryz.prog cf (k - 1))) (S i) (.fn g caps) [.agg p.1.c, .sc (.string p.2)] = some (.tup [], S (i + 1))) :
    arun Tryz.prog cf k 63 [.agg x.c, .fn g caps] (S 0) = some (.tup [], S (eachL x.body).length) := by
  obtain ⟨k, rfl⟩ : ∃ j, k = j + 1 := ⟨k - 1, by omega⟩
  rw [Nat.add_sub_cancel] at hc
  rw [arun_body rfl rfl Tryz.func63 rfl (N := 28) rfl]
  have hw := wraps (n := x.body.length) (by omega)
  simp only [R0, RC, zipEnv, Nat.reduceLT, Nat.reduceAdd, Nat.reduceEqDiff, Nat.reduceLeDiff, reduceCtorEq, ↓reduceIte, ares, aresult, pr, Int.reduceEq, Int.reduceLT, Int.reduceLE, Nat.reduceSub, Nat.reduceMul, aFieldAddr, aField, aLoad, aStore, aExtract, aBox, aint, rdVar, rdCells, Value.oneCell', splice, Int.reduceNeg, zvar1, chunks, depth, some_map, Nat.reduceBEq, cf_dyn, okU, Tryz.f63, rf63, RuleT.c]
  generalize hA : aloop _ _ _ _ _ _ _ _ _ _ _ = A
  rcases aloop_list hA [1, 9, 10, 11] (fun j => ⟨[(1, .fn g caps), (9, mkL 17 (x.body.map LitT.c)), (10, .sc (.int .i64 x.body.length)), (11, .sc (.int .i64 (j : Nat)))], S (eachL (x.body.take j)).length⟩) x.body (fun _ => false) (by omega) rfl rfl (fun j l hj hl hq => by
      have hu := uses_run l (by have := hp l (List.mem_of_getElem? hl); omega) k (by omega)
      have hul := usesT_len l
      have hpl := hp l (List.mem_of_getElem? hl)
      have hw2 := wraps (n := (usesT l).length) (by omega)
      have he := eachL_take hl
      simp only [LitT.c] at hu
      simp only [R0, RC, zipEnv, Nat.reduceLT, Nat.reduceAdd, Nat.reduceEqDiff, Nat.reduceLeDiff, reduceCtorEq, ↓reduceIte, ares, aresult, pr, Int.reduceEq, Int.reduceLT, Int.reduceLE, Nat.reduceSub, Nat.reduceMul, aFieldAddr, aField, aLoad, aStore, aExtract, aBox, aint, rdVar, rdCells, Value.oneCell', splice, Int.reduceNeg, zvar1, chunks, depth, some_map, Nat.reduceBEq, cf_dyn, okU, Tryz.f63, rf63, LitT.c, hj, hl, hw j hj, hu]
      generalize hB : aloop _ _ _ _ _ _ _ _ _ _ _ = B
      rcases aloop_list hB [1, 5, 9, 10, 11, 16, 17, 18] (fun i => ⟨[(1, .fn g caps), (5, .ro l.c), (9, mkL 17 (x.body.map LitT.c)), (10, .sc (.int .i64 x.body.length)), (11, .sc (.int .i64 (j : Nat))), (16, mkL 1 (sRows (usesT l))), (17, .sc (.int .i64 (usesT l).length)), (18, .sc (.int .i64 (i : Nat)))], S ((eachL (x.body.take j)).length + i)⟩) (usesT l) (fun _ => false) (by omega) rfl rfl (fun i s hi hs hq => by
          have h1 := fun strict => hc _ _ strict (eachL_at hl hs)
          simp only [LitT.c] at h1
          simp only [R0, RC, zipEnv, Nat.reduceLT, Nat.reduceAdd, Nat.reduceEqDiff, Nat.reduceLeDiff, reduceCtorEq, ↓reduceIte, ares, aresult, pr, Int.reduceEq, Int.reduceLT, Int.reduceLE, Nat.reduceSub, Nat.reduceMul, aFieldAddr, aField, aLoad, aStore, aExtract, aBox, aint, rdVar, rdCells, Value.oneCell', splice, Int.reduceNeg, zvar1, chunks, depth, some_map, Nat.reduceBEq, cf_dyn, okU, Tryz.f63, rf63, LitT.c, sC, hi, hs, hw2 i hi, h1, Nat.add_assoc]) (fun i s hi hs hq => by cases hq) (by simp only [R0, RC, zipEnv, Nat.reduceLT, Nat.reduceAdd, Nat.reduceEqDiff, Nat.reduceLeDiff, reduceCtorEq, ↓reduceIte, ares, aresult, pr, Int.reduceEq, Int.reduceLT, Int.reduceLE, Nat.reduceSub, Nat.reduceMul, aFieldAddr, aField, aLoad, aStore, aExtract, aBox, aint, rdVar, rdCells, Value.oneCell', splice, Int.reduceNeg, zvar1, chunks, depth, some_map, Nat.reduceBEq, cf_dyn, okU, Tryz.f63, rf63, LitT.c]) with ⟨h, e1⟩ | ⟨i, s, hi, hs, hq, h, e1⟩
      · rw [e1]
        simp only [R0, RC, zipEnv, Nat.reduceLT, Nat.reduceAdd, Nat.reduceEqDiff, Nat.reduceLeDiff, reduceCtorEq, ↓reduceIte, ares, aresult, pr, Int.reduceEq, Int.reduceLT, Int.reduceLE, Nat.reduceSub, Nat.reduceMul, aFieldAddr, aField, aLoad, aStore, aExtract, aBox, aint, rdVar, rdCells, Value.oneCell', splice, Int.reduceNeg, zvar1, chunks, depth, some_map, Nat.reduceBEq, cf_dyn, okU, Tryz.f63, rf63, hw j hj, he, List.length_append]
      · cases hq) (fun j l hj hl hq => by cases hq) (by simp only [R0, RC, zipEnv, Nat.reduceLT, Nat.reduceAdd, Nat.reduceEqDiff, Nat.reduceLeDiff, reduceCtorEq, ↓reduceIte, ares, aresult, pr, Int.reduceEq, Int.reduceLT, Int.reduceLE, Nat.reduceSub, Nat.reduceMul, aFieldAddr, aField, aLoad, aStore, aExtract, aBox, aint, rdVar, rdCells, Value.oneCell', splice, Int.reduceNeg, zvar1, chunks, depth, some_map, Nat.reduceBEq, cf_dyn, okU, Tryz.f63, rf63, List.take_zero]) with ⟨h, e1⟩ | ⟨j, l, hj, hl, hq, h, e1⟩
  · rw [e1, List.take_length]
    simp only [R0, RC, zipEnv, Nat.reduceLT, Nat.reduceAdd, Nat.reduceEqDiff, Nat.reduceLeDiff, reduceCtorEq, ↓reduceIte, ares, aresult, pr, Int.reduceEq, Int.reduceLT, Int.reduceLE, Nat.reduceSub, Nat.reduceMul, aFieldAddr, aField, aLoad, aStore, aExtract, aBox, aint, rdVar, rdCells, Value.oneCell', splice, Int.reduceNeg, zvar1, chunks, depth, some_map, Nat.reduceBEq, cf_dyn, okU, Tryz.f63, rf63]
  · cases hq
end Go.Proofs.YtpgipdajinkdgaaGreatA

namespace Go.Proofs.YtpgipdajinkdgaaGreatA
open Go Go.RowKit
set_option linter.all false
set_option linter.unusedSectionVars false
set_option linter.constructorNameAsVariable false
set_option linter.unusedVariables false
set_option linter.unusedSimpArgs false
def NS (l : List ByteArray) : List Blk := [⟨9, 1, l.length - 1, true, (sRows l).flatten, .cells⟩, ⟨36, 1, 0, false, [.own 0 0 l.length 1 (l.length - 1)], .cells⟩]
theorem ns_app {l : List ByteArray} {s : ByteArray} (hne : l ≠ []) (hl : l.length ≤ 1000000) : aappend Tryz.prog (NS l) 36 (.own 0 0 l.length 1 (l.length - 1)) (mkL 1 [[.sc (.string s)]]) = some (.upd (.own 0 0 (l ++ [s]).length 1 ((l ++ [s]).length - 1)) 0 ⟨9, 1, (l ++ [s]).length - 1, true, (sRows (l ++ [s])).flatten, .cells⟩) := by
  have hp : 0 < l.length := by cases l with | nil => exact absurd rfl hne | cons a b => simp
  have h := app_o (P := Tryz.prog) (H := NS l) (b := 0) (ver := l.length - 1) (rows := sRows l) (more := [[.sc (.string s)]]) ro36 rfl sRows_row (by simp) (by simp [one]; rfl) (by simp; omega) (by simp [maxLen]; omega)
  have e1 : (sRows l).length = l.length := by simp
  have e2 : (l ++ [s]).length = l.length + 1 := by simp
  have e3 : l.length - 1 + 1 = l.length := by omega
  have e4 : (sRows (l ++ [s])).flatten = (sRows l).flatten ++ [[.sc (.string s)]].flatten := by simp [sRows, sC]
  rw [e1, e3] at h
  rw [e2, e4, Nat.add_sub_cancel]
  exact h
theorem clo_names (q : LitT) (s : ByteArray) (l : List ByteArray) (hne : l ≠ []) (hl : l.length ≤ 1000000) (k : Nat) : arun Tryz.prog cf (k + 1) 64 [.agg q.c, .sc (.string s), .ptr 1 0 0] (NS l) = some (.tup [], NS (l ++ [s])) := by
  have ha := ns_app (s := s) hne hl
  rw [arun_body rfl rfl Tryz.func64 rfl (N := 9) rfl]
  unfold NS at ha ⊢
  simp only [R0, RC, zipEnv, Nat.reduceLT, Nat.reduceAdd, Nat.reduceEqDiff, Nat.reduceLeDiff, reduceCtorEq, ↓reduceIte, ares, aresult, pr, Int.reduceEq, Int.reduceLT, Int.reduceLE, Nat.reduceSub, Nat.reduceMul, aFieldAddr, aField, aLoad, aStore, aExtract, aBox, aint, rdVar, rdCells, Value.oneCell', splice, Int.reduceNeg, zvar1, chunks, depth, some_map, Nat.reduceBEq, cf_dyn, okU, Tryz.f64, rf64, LitT.c, ha]
def ruleN (r : RuleT) : List ByteArray := r.head.p :: (eachL r.body).map (·.2)
def allN (p : ProgT) : List ByteArray := p.query.p :: p.rules.flatMap ruleN
theorem names_run (p : ProgT) (hR : p.rules.length ≤ 1000) (hB : ∀ r ∈ p.rules, r.body.length ≤ 1000 ∧ ∀ l ∈ r.body, l.path.length ≤ 900) (hN : (allN p).length ≤ 1000000) (k : Nat) (hk : 1020 ≤ k) :
    val Tryz.prog cf k 35 [.agg p.c] = some (mkL 1 (sRows (Ord.sorted (allN p)))) := by
  obtain ⟨k, rfl⟩ : ∃ j, k = j + 1 := ⟨k - 1, by omega⟩
  have key : ∀ (H0 : List Blk) (v0 : AV), OutAt 9 1 H0 v0 (sRows (allN p)) → (∀ v H', arun Tryz.prog cf k 65 [v0] H0 = some (v, H') → arun Tryz.prog cf (k + 1) 35 [.agg p.c] [] = some (v, H')) → val Tryz.prog cf (k + 1) 35 [.agg p.c] = some (mkL 1 (sRows (Ord.sorted (allN p)))) := by
    intro H0 v0 ho h
    obtain ⟨v, H', e, hh⟩ := sorted_run ho (by omega) k (by omega)
    exact val_head (h v H' e) hh sRows_row sRows_stay
  have hne : ∀ (m : List ByteArray), p.query.p :: m ≠ [] := fun m => by simp
  refine key (NS (allN p)) (.own 0 0 (allN p).length 1 ((allN p).length - 1)) (.inr ⟨by simp [allN], 0, _, by simp, rfl⟩) (fun v H' e => ?_)
  rw [arun_body rfl rfl Tryz.func35 rfl (N := 29) rfl]
  have hw := wraps (n := p.rules.length) (by omega)
  simp only [R0, RC, zipEnv, Nat.reduceLT, Nat.reduceAdd, Nat.reduceEqDiff, Nat.reduceLeDiff, reduceCtorEq, ↓reduceIte, ares, aresult, pr, Int.reduceEq, Int.reduceLT, Int.reduceLE, Nat.reduceSub, Nat.reduceMul, aFieldAddr, aField, aLoad, aStore, aExtract, aBox, aint, rdVar, rdCells, Value.oneCell', splice, Int.reduceNeg, zvar1, chunks, depth, some_map, Nat.reduceBEq, cf_dyn, okU, Tryz.f35, rf35, ProgT.c]
  generalize hA : aloop _ _ _ _ _ _ _ _ _ _ _ = A
  rcases aloop_list hA [3, 11, 12, 13] (fun j => ⟨[(3, .ptr 1 0 0), (11, mkL 4 (p.rules.map RuleT.c)), (12, .sc (.int .i64 p.rules.length)), (13, .sc (.int .i64 (j : Nat)))], NS (p.query.p :: (p.rules.take j).flatMap ruleN)⟩) p.rules (fun _ => false) (by omega) rfl rfl (fun j r hj hr hq => by
      have hm0 : (p.rules.take (j + 1)).flatMap ruleN = (p.rules.take j).flatMap ruleN ++ ruleN r := by
        obtain ⟨hj', rfl⟩ := List.getElem?_eq_some_iff.1 hr
        rw [List.take_succ_eq_append_getElem hj', List.flatMap_append]
        simp
      have hml : (p.query.p :: (p.rules.take (j + 1)).flatMap ruleN).length ≤ 1000000 := by
        refine Nat.le_trans ?_ hN
        unfold allN
        conv => rhs; rw [← List.take_append_drop (j + 1) p.rules, List.flatMap_append]
        simp only [List.length_cons, List.length_append]
        omega
      rw [hm0] at hml ⊢
      rw [← List.cons_append] at hml ⊢
      have hmne : p.query.p :: (p.rules.take j).flatMap ruleN ≠ [] := by simp
      generalize p.query.p :: (p.rules.take j).flatMap ruleN = m at hml hmne ⊢
      simp only [ruleN, List.length_append, List.length_cons, List.length_map] at hml
      have ha := ns_app (s := r.head.p) hmne (by omega)
      have hE := each_run (g := 64) (caps := [.ptr 1 0 0]) (S := fun i => NS (m ++ [r.head.p] ++ ((eachL r.body).take i).map (·.2))) r (hB r (List.mem_of_getElem? hr)).1 (hB r (List.mem_of_getElem? hr)).2 k (by omega) (fun i q strict hq => by
        have hi : i < (eachL r.body).length := by
          rcases Nat.lt_or_ge i (eachL r.body).length with h | h
          · exact h
          · rw [List.getElem?_eq_none h] at hq; cases hq
        have hc := clo_names q.1 q.2 (m ++ [r.head.p] ++ ((eachL r.body).take i).map (·.2)) (by simp) (by simp; omega) (k - 2)
        rw [show k - 2 + 1 = k - 1 by omega] at hc
        rw [cl64]
        refine hc.trans ?_
        obtain ⟨_, rfl⟩ := List.getElem?_eq_some_iff.1 hq
        rw [List.take_succ_eq_append_getElem hi, List.map_append]
        simp only [List.append_assoc, List.map_cons, List.map_nil])
      simp only [List.take_zero, List.map_nil, List.append_nil, List.take_length, RuleT.c] at hE
      unfold NS at ha hE ⊢
      simp only [ruleN, sC]
      simp only [R0, RC, zipEnv, Nat.reduceLT, Nat.reduceAdd, Nat.reduceEqDiff, Nat.reduceLeDiff, reduceCtorEq, ↓reduceIte, ares, aresult, pr, Int.reduceEq, Int.reduceLT, Int.reduceLE, Nat.reduceSub, Nat.reduceMul, aFieldAddr, aField, aLoad, aStore, aExtract, aBox, aint, rdVar, rdCells, Value.oneCell', splice, Int.reduceNeg, zvar1, chunks, depth, some_map, Nat.reduceBEq, cf_dyn, okU, Tryz.f35, rf35, RuleT.c, hj, hr, hw j hj, ha, hE, List.append_assoc, List.singleton_append]) (fun j r hj hr hq => by cases hq) (by
      unfold NS
      simp only [R0, RC, zipEnv, Nat.reduceLT, Nat.reduceAdd, Nat.reduceEqDiff, Nat.reduceLeDiff, reduceCtorEq, ↓reduceIte, ares, aresult, pr, Int.reduceEq, Int.reduceLT, Int.reduceLE, Nat.reduceSub, Nat.reduceMul, aFieldAddr, aField, aLoad, aStore, aExtract, aBox, aint, rdVar, rdCells, Value.oneCell', splice, Int.reduceNeg, zvar1, chunks, depth, some_map, Nat.reduceBEq, cf_dyn, okU, Tryz.f35, rf35, List.take_zero, List.flatMap_nil, sC]) with ⟨h, e1⟩ | ⟨j, r, hj, hr, hq, h, e1⟩
  · rw [e1, List.take_length, show p.query.p :: p.rules.flatMap ruleN = allN p from rfl]
    unfold NS at e ⊢
    generalize allN p = m at e ⊢
    simp only [R0, RC, zipEnv, Nat.reduceLT, Nat.reduceAdd, Nat.reduceEqDiff, Nat.reduceLeDiff, reduceCtorEq, ↓reduceIte, ares, aresult, pr, Int.reduceEq, Int.reduceLT, Int.reduceLE, Nat.reduceSub, Nat.reduceMul, aFieldAddr, aField, aLoad, aStore, aExtract, aBox, aint, rdVar, rdCells, Value.oneCell', splice, Int.reduceNeg, zvar1, chunks, depth, some_map, Nat.reduceBEq, cf_dyn, okU, Tryz.f35, rf35, e]
  · cases hq
end Go.Proofs.YtpgipdajinkdgaaGreatA
