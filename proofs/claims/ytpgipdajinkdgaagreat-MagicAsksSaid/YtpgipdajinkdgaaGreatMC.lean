/- MagicAsks: how many of a rule's literals ask. -/
import Derived.Test.YtpgipdajinkdgaaGreatMP2
import Derived.Test.YtpgipdajinkdgaaGreatM9
import Derived.Test.YtpgipdajinkdgaaGreatME
namespace Go.Proofs.YtpgipdajinkdgaaGreatA
open Go Go.RowKit
set_option linter.all false
set_option linter.unusedSectionVars false
set_option linter.constructorNameAsVariable false
set_option linter.unusedVariables false
set_option linter.unusedSimpArgs false
set_option maxHeartbeats 2000000 in
theorem asks_cnt {p q : ProgT} {px : ByteArray} {x : RuleT} {many i n : Int} (hb : x.body.length ≤ 1000) {k : Nat} (hk : 2000 ≤ k) {jump : Code → Code → St → Option (AX × St)} {s0 : St} {R : Option (AX × St)} {H : List Blk}
    (h : aloop Tryz.prog (acall cf.mode false (arun Tryz.prog cf k)) (acall cf.mode true (arun Tryz.prog cf k)) jump (pureOf cf.mode) (cf.dyn 5) (cf.keep 5) 211 k (loopAt Tryz.f5 18) s0 = R)
    (h0 : pr [2, 5, 7, 8, 9, 10, 11, 37, 38, 97, 98] s0 = ⟨[(2, .ro p.c), (5, .ro q.c), (7, .sc (.string (fndS px))), (8, .sc (.int .i64 many)), (9, .sc (.int .i64 i)), (10, .ro x.c), (11, .sc (.int .i64 0)), (37, .sc (.int .i64 n)), (38, .sc (.int .i64 i)), (97, .sc (.int .i64 x.body.length)), (98, .sc (.int .i64 0))], H⟩) :
    R = some (.exit 2, ⟨[(2, .ro p.c), (5, .ro q.c), (7, .sc (.string (fndS px))), (8, .sc (.int .i64 many)), (9, .sc (.int .i64 i)), (10, .ro x.c), (11, .sc (.int .i64 (cntF px (x.body.drop 1) : Nat))), (37, .sc (.int .i64 n)), (38, .sc (.int .i64 i)), (97, .sc (.int .i64 x.body.length)), (98, .sc (.int .i64 x.body.length)), (99, .sc (.bool false))], H⟩) := by
  have hw := wraps (n := x.body.length) (by omega)
  obtain ⟨s, hs, e⟩ := aloop_inv2 h [2, 5, 7, 8, 9, 10, 11, 37, 38, 97, 98] (fun j s => s = ⟨[(2, .ro p.c), (5, .ro q.c), (7, .sc (.string (fndS px))), (8, .sc (.int .i64 many)), (9, .sc (.int .i64 i)), (10, .ro x.c), (11, .sc (.int .i64 (cntF px ((x.body.take j).drop 1) : Nat))), (37, .sc (.int .i64 n)), (38, .sc (.int .i64 i)), (97, .sc (.int .i64 x.body.length)), (98, .sc (.int .i64 (j : Nat)))], H⟩) x.body.length (by omega) rfl h0 (fun j hj s hs => by
    subst hs
    obtain ⟨l, hl⟩ : ∃ l, l = x.body[j] := ⟨_, rfl⟩
    have xl : x.body[j]? = some l := by rw [hl]; exact List.getElem?_eq_getElem hj
    have c0 : ((0 : Int) < (j : Int)) = (0 < j) := propext (by omega)
    have e1 : (((fndS px).size : Int) ≤ (l.a.p.size : Int)) = ((fndS px).size ≤ l.a.p.size) := propext (by omega)
    by_cases hj0 : 0 < j
    · have hcl : cntF px ((x.body.take j).drop 1) ≤ 1000 := by
        unfold cntF
        refine Nat.le_trans (List.length_filter_le _ _) ?_
        rw [List.length_drop, List.length_take]
        omega
      have hdr : (x.body.take (j + 1)).drop 1 = (x.body.take j).drop 1 ++ [l] := by
        rw [List.take_succ_eq_append_getElem hj, ← hl, List.drop_append_of_le_length (by rw [List.length_take]; omega)]
      rw [hdr, cntF_app]
      generalize cntF px ((x.body.take j).drop 1) = c at *
      have hwc : IntKind.i64.wrap (((c : Nat) : Int) + 1) = ((c + 1 : Nat) : Int) := wrap_succ (by omega)
      by_cases hk1 : l.k = 1
      · by_cases hsz : (fndS px).size ≤ l.a.p.size
        · have hx : bnd (some (AV.sc (.int .i64 ((fndS px).size : Nat)))) l.a.p.size l.a.p.size = some (fndS px).size := by
            simp [bnd, aint]
            omega
          by_cases hpe : l.a.p.extract 0 (fndS px).size = fndS px
          · have : cntF px [l] = 1 := by simp [cntF, isF, preB, hk1, hsz, hpe]
            rw [this]
            exact ⟨_, by simp only [R0, RC, zipEnv, Nat.reduceLT, Nat.reduceAdd, Nat.reduceEqDiff, Nat.reduceLeDiff, reduceCtorEq, ↓reduceIte, ares, aresult, pr, Int.reduceEq, Int.reduceLT, Int.reduceLE, Nat.reduceSub, Nat.reduceMul, aFieldAddr, aField, aLoad, aStore, aExtract, aBox, aint, rdVar, rdCells, Value.oneCell', splice, Int.reduceNeg, zvar1, chunks, depth, some_map, Nat.reduceBEq, cf_dyn, okU, Tryz.f5, rf5, loopAt, findLoop, firstId, Option.getD_some, Option.some.injEq, Nat.reduceEqDiff, if_false, if_true, RuleT.c, LitT.c, ProgT.c, hj, xl, hw j hj, c0, hj0, e1, hk1, hsz, slStr, hx, hpe, hwc], rfl⟩
          · have : cntF px [l] = 0 := by simp [cntF, isF, preB, hk1, hsz, hpe]
            rw [this]
            exact ⟨_, by simp only [R0, RC, zipEnv, Nat.reduceLT, Nat.reduceAdd, Nat.reduceEqDiff, Nat.reduceLeDiff, reduceCtorEq, ↓reduceIte, ares, aresult, pr, Int.reduceEq, Int.reduceLT, Int.reduceLE, Nat.reduceSub, Nat.reduceMul, aFieldAddr, aField, aLoad, aStore, aExtract, aBox, aint, rdVar, rdCells, Value.oneCell', splice, Int.reduceNeg, zvar1, chunks, depth, some_map, Nat.reduceBEq, cf_dyn, okU, Tryz.f5, rf5, loopAt, findLoop, firstId, Option.getD_some, Option.some.injEq, Nat.reduceEqDiff, if_false, if_true, RuleT.c, LitT.c, ProgT.c, hj, xl, hw j hj, c0, hj0, e1, hk1, hsz, slStr, hx, hpe, hwc], rfl⟩
        · have : cntF px [l] = 0 := by simp [cntF, isF, preB, hk1, hsz]
          rw [this]
          exact ⟨_, by simp only [R0, RC, zipEnv, Nat.reduceLT, Nat.reduceAdd, Nat.reduceEqDiff, Nat.reduceLeDiff, reduceCtorEq, ↓reduceIte, ares, aresult, pr, Int.reduceEq, Int.reduceLT, Int.reduceLE, Nat.reduceSub, Nat.reduceMul, aFieldAddr, aField, aLoad, aStore, aExtract, aBox, aint, rdVar, rdCells, Value.oneCell', splice, Int.reduceNeg, zvar1, chunks, depth, some_map, Nat.reduceBEq, cf_dyn, okU, Tryz.f5, rf5, loopAt, findLoop, firstId, Option.getD_some, Option.some.injEq, Nat.reduceEqDiff, if_false, if_true, RuleT.c, LitT.c, ProgT.c, hj, xl, hw j hj, c0, hj0, e1, hk1, hsz, slStr, hwc], rfl⟩
      · have : cntF px [l] = 0 := by simp [cntF, isF, hk1]
        rw [this]
        exact ⟨_, by simp only [R0, RC, zipEnv, Nat.reduceLT, Nat.reduceAdd, Nat.reduceEqDiff, Nat.reduceLeDiff, reduceCtorEq, ↓reduceIte, ares, aresult, pr, Int.reduceEq, Int.reduceLT, Int.reduceLE, Nat.reduceSub, Nat.reduceMul, aFieldAddr, aField, aLoad, aStore, aExtract, aBox, aint, rdVar, rdCells, Value.oneCell', splice, Int.reduceNeg, zvar1, chunks, depth, some_map, Nat.reduceBEq, cf_dyn, okU, Tryz.f5, rf5, loopAt, findLoop, firstId, Option.getD_some, Option.some.injEq, Nat.reduceEqDiff, if_false, if_true, RuleT.c, LitT.c, ProgT.c, hj, xl, hw j hj, c0, hj0, e1, hk1, hwc], rfl⟩
    · have hz : j = 0 := by omega
      subst hz
      have h1 : cntF px ((x.body.take (0 + 1)).drop 1) = 0 := by
        have : (x.body.take (0 + 1)).drop 1 = [] := List.drop_eq_nil_of_le (by rw [List.length_take]; omega)
        rw [this]; rfl
      have h2 : cntF px ((x.body.take 0).drop 1) = 0 := by simp [cntF]
      rw [h1, h2]
      exact ⟨_, by simp only [R0, RC, zipEnv, Nat.reduceLT, Nat.reduceAdd, Nat.reduceEqDiff, Nat.reduceLeDiff, reduceCtorEq, ↓reduceIte, ares, aresult, pr, Int.reduceEq, Int.reduceLT, Int.reduceLE, Nat.reduceSub, Nat.reduceMul, aFieldAddr, aField, aLoad, aStore, aExtract, aBox, aint, rdVar, rdCells, Value.oneCell', splice, Int.reduceNeg, zvar1, chunks, depth, some_map, Nat.reduceBEq, cf_dyn, okU, Tryz.f5, rf5, loopAt, findLoop, firstId, Option.getD_some, Option.some.injEq, Nat.reduceEqDiff, if_false, if_true, RuleT.c, LitT.c, ProgT.c, hj, xl, hw 0 hj, c0, hj0, e1], rfl⟩) (fun s hs => by
    subst hs
    simp only [R0, RC, zipEnv, Nat.reduceLT, Nat.reduceAdd, Nat.reduceEqDiff, Nat.reduceLeDiff, reduceCtorEq, ↓reduceIte, ares, aresult, pr, Int.reduceEq, Int.reduceLT, Int.reduceLE, Nat.reduceSub, Nat.reduceMul, aFieldAddr, aField, aLoad, aStore, aExtract, aBox, aint, rdVar, rdCells, Value.oneCell', splice, Int.reduceNeg, zvar1, chunks, depth, some_map, Nat.reduceBEq, cf_dyn, okU, Tryz.f5, rf5, loopAt, findLoop, firstId, Option.getD_some, Option.some.injEq, Nat.reduceEqDiff, if_false, if_true])
  subst hs
  rw [e, List.take_length]
  simp only [R0, RC, zipEnv, Nat.reduceLT, Nat.reduceAdd, Nat.reduceEqDiff, Nat.reduceLeDiff, reduceCtorEq, ↓reduceIte, ares, aresult, pr, Int.reduceEq, Int.reduceLT, Int.reduceLE, Nat.reduceSub, Nat.reduceMul, aFieldAddr, aField, aLoad, aStore, aExtract, aBox, aint, rdVar, rdCells, Value.oneCell', splice, Int.reduceNeg, zvar1, chunks, depth, some_map, Nat.reduceBEq, cf_dyn, okU, Tryz.f5, rf5, loopAt, findLoop, firstId, Option.getD_some, Option.some.injEq, Nat.reduceEqDiff, if_false, if_true]
end Go.Proofs.YtpgipdajinkdgaaGreatA

namespace Go.Proofs.YtpgipdajinkdgaaGreatA
open Go Go.RowKit
set_option linter.all false
set_option linter.unusedSectionVars false
set_option linter.constructorNameAsVariable false
set_option linter.unusedVariables false
set_option linter.unusedSimpArgs false
theorem slS_row {P : Program} {H : List Blk} {ρ : Operand → AV} {d : Option Tmp} {t ty e : TypeId} {pos : String} {af : Array Edge} {g : Option (Nat × Bool)} {x i h : Operand} {sz : Nat} {rows : List (List AV)} {q r : IntKind} {j n : Nat} (ht : P.underlying t = some (.slice e)) (hs : szOf P e = some sz) (h1 : j ≤ n) (h2 : n ≤ rows.length)
    (hx : ρ x = mkL sz rows) (hi : ρ i = .sc (.int q (j : Nat))) (hh : ρ h = .sc (.int r (n : Nat))) :
    aSliceS P H ρ ⟨d, .slice t x (some i) (some h) none, ty, pos, af, g⟩ t (mkL sz rows) (.sc (.int q (j : Nat))) (.sc (.int r (n : Nat))) = some (.val (mkL sz ((rows.take n).drop j))) := by
  cases rows with
  | nil =>
    have hn : n = 0 := by simpa using h2
    subst hn
    have hj : j = 0 := by omega
    subst hj
    simp only [mkL] at hx
    simp [aSliceS, mkL, aop, hx, hi, hh, ht, hs, bnd, aint]
  | cons r0 rs =>
    simp only [mkL] at hx
    simp only [aSliceS, mkL, aop, hx, hi, hh, ht, hs, Option.map_some, bnd_nat, if_pos h1, if_pos h2]
    simp
theorem one_row {l : LitT} {ls : List LitT} {j : Nat} (h : ls[j]? = some l) : ((ls.map LitT.c).take (j + 1)).drop j = [l.c] := by
  have hj : j < ls.length := by rcases Nat.lt_or_ge j ls.length with h' | h'; exact h'; rw [List.getElem?_eq_none h'] at h; cases h
  rw [List.take_succ_eq_append_getElem (by simpa using hj), List.drop_append_of_le_length (by simp; omega), List.drop_of_length_le (by simp; omega), List.nil_append]
  rw [List.getElem?_eq_getElem hj] at h
  simp only [Option.some.injEq] at h
  simp [h]
set_option maxHeartbeats 2000000 in
theorem asks_lit {p q : ProgT} {px : ByteArray} {x y : RuleT} {many i n c kk : Int} (hb : x.body.length ≤ 1000) (hlt : y.body.length ≤ x.body.length) (hxy : y.body = x.body.take y.body.length) (hl : ∀ l ∈ y.body, l.a.args.length ≤ 1000 ∧ l.path.length ≤ 1000) {k : Nat} (hk : 2000 ≤ k) {jump : Code → Code → St → Option (AX × St)} {s0 : St} {R : Option (AX × St)} {H : List Blk}
    (h : aloop Tryz.prog (acall cf.mode false (arun Tryz.prog cf k)) (acall cf.mode true (arun Tryz.prog cf k)) jump (pureOf cf.mode) (cf.dyn 5) (cf.keep 5) 211 k (loopAt Tryz.f5 32) s0 = R)
    (h0 : pr [2, 5, 7, 8, 9, 10, 11, 13, 14, 37, 38, 173, 174] s0 = ⟨[(2, .ro p.c), (5, .ro q.c), (7, .sc (.string (fndS px))), (8, .sc (.int .i64 many)), (9, .sc (.int .i64 i)), (10, .ro x.c), (11, .sc (.int .i64 c)), (13, .sc (.int .i64 kk)), (14, .ro y.c), (37, .sc (.int .i64 n)), (38, .sc (.int .i64 i)), (173, .sc (.int .i64 y.body.length)), (174, .sc (.int .i64 0))], H⟩) :
    R = some (.exit 6, ⟨[(2, .ro p.c), (5, .ro q.c), (7, .sc (.string (fndS px))), (8, .sc (.int .i64 many)), (9, .sc (.int .i64 i)), (10, .ro x.c), (11, .sc (.int .i64 c)), (13, .sc (.int .i64 kk)), (14, .ro y.c), (37, .sc (.int .i64 n)), (38, .sc (.int .i64 i)), (173, .sc (.int .i64 y.body.length)), (174, .sc (.int .i64 y.body.length)), (175, .sc (.bool false))], H⟩) := by
  have hw := wraps (n := y.body.length) (by omega)
  obtain ⟨s, hs, e⟩ := aloop_inv2 h [2, 5, 7, 8, 9, 10, 11, 13, 14, 37, 38, 173, 174] (fun j s => s = ⟨[(2, .ro p.c), (5, .ro q.c), (7, .sc (.string (fndS px))), (8, .sc (.int .i64 many)), (9, .sc (.int .i64 i)), (10, .ro x.c), (11, .sc (.int .i64 c)), (13, .sc (.int .i64 kk)), (14, .ro y.c), (37, .sc (.int .i64 n)), (38, .sc (.int .i64 i)), (173, .sc (.int .i64 y.body.length)), (174, .sc (.int .i64 (j : Nat)))], H⟩) y.body.length (by omega) rfl h0 (fun j hj s hs => by
    subst hs
    obtain ⟨l, hll⟩ : ∃ l, l = y.body[j] := ⟨_, rfl⟩
    have yl : y.body[j]? = some l := by rw [hll]; exact List.getElem?_eq_getElem hj
    have xl : x.body[j]? = some l := by
      have e := congrArg (fun b : List LitT => b[j]?) hxy
      simp only [List.getElem?_take, if_pos hj] at e
      rw [← e]
      exact yl
    obtain ⟨q1, q2⟩ := hl l (List.mem_of_getElem? yl)
    have o1 := one_row yl
    have o2 := one_row xl
    have sl1 := fun (H : List Blk) (ρ : Operand → AV) d ty pos af g x i h => slS_row (P := Tryz.prog) (H := H) (ρ := ρ) (d := d) (ty := ty) (pos := pos) (af := af) (g := g) (x := x) (i := i) (h := h) (q := .i64) (r := .i64) (j := j) (n := j + 1) (rows := y.body.map LitT.c) (t := 48) Tryz.underlying48 sz54 (by omega) (by rw [List.length_map]; omega)
    have sl2 := fun (H : List Blk) (ρ : Operand → AV) d ty pos af g x2 i h => slS_row (P := Tryz.prog) (H := H) (ρ := ρ) (d := d) (ty := ty) (pos := pos) (af := af) (g := g) (x := x2) (i := i) (h := h) (q := .i64) (r := .i64) (j := j) (n := j + 1) (rows := x.body.map LitT.c) (t := 48) Tryz.underlying48 sz54 (by omega) (by rw [List.length_map]; omega)
    have hsame := sameRule_run ⟨⟨.empty, []⟩, 0, [l]⟩ (by simp) (by simp) (fun l' hl' => by
      simp only [List.mem_singleton] at hl'
      subst hl'
      exact ⟨q1, q2⟩) k (by omega)
    simp only [RuleT.c, List.map_nil, List.map_cons, mkL_nil] at hsame
    simp only [lst0] at hsame
    refine ⟨_, by simp only [R0, RC, zipEnv, Nat.reduceLT, Nat.reduceAdd, Nat.reduceEqDiff, Nat.reduceLeDiff, reduceCtorEq, ↓reduceIte, ares, aresult, pr, Int.reduceEq, Int.reduceLT, Int.reduceLE, Nat.reduceSub, Nat.reduceMul, aFieldAddr, aField, aLoad, aStore, aExtract, aBox, aint, rdVar, rdCells, Value.oneCell', splice, Int.reduceNeg, zvar1, chunks, depth, some_map, Nat.reduceBEq, cf_dyn, okU, Tryz.f5, rf5, loopAt, findLoop, firstId, Option.getD_some, Option.some.injEq, Nat.reduceEqDiff, if_false, if_true, RuleT.c, ProgT.c, hj, hw j hj, sl1, sl2, o1, o2, hsame], rfl⟩) (fun s hs => by
    subst hs
    simp only [R0, RC, zipEnv, Nat.reduceLT, Nat.reduceAdd, Nat.reduceEqDiff, Nat.reduceLeDiff, reduceCtorEq, ↓reduceIte, ares, aresult, pr, Int.reduceEq, Int.reduceLT, Int.reduceLE, Nat.reduceSub, Nat.reduceMul, aFieldAddr, aField, aLoad, aStore, aExtract, aBox, aint, rdVar, rdCells, Value.oneCell', splice, Int.reduceNeg, zvar1, chunks, depth, some_map, Nat.reduceBEq, cf_dyn, okU, Tryz.f5, rf5, loopAt, findLoop, firstId, Option.getD_some, Option.some.injEq, Nat.reduceEqDiff, if_false, if_true])
  subst hs
  rw [e]
  simp only [R0, RC, zipEnv, Nat.reduceLT, Nat.reduceAdd, Nat.reduceEqDiff, Nat.reduceLeDiff, reduceCtorEq, ↓reduceIte, ares, aresult, pr, Int.reduceEq, Int.reduceLT, Int.reduceLE, Nat.reduceSub, Nat.reduceMul, aFieldAddr, aField, aLoad, aStore, aExtract, aBox, aint, rdVar, rdCells, Value.oneCell', splice, Int.reduceNeg, zvar1, chunks, depth, some_map, Nat.reduceBEq, cf_dyn, okU, Tryz.f5, rf5, loopAt, findLoop, firstId, Option.getD_some, Option.some.injEq, Nat.reduceEqDiff, if_false, if_true]
end Go.Proofs.YtpgipdajinkdgaaGreatA

namespace Go.Proofs.YtpgipdajinkdgaaGreatA
open Go Go.RowKit
set_option linter.all false
set_option linter.unusedSectionVars false
set_option linter.constructorNameAsVariable false
set_option linter.unusedVariables false
set_option linter.unusedSimpArgs false
theorem in_run2 (l : List ByteArray) (s : ByteArray) (hl : l.length ≤ 5000000000000) (k : Nat) (hk : 5000000000002 ≤ k) : val Tryz.prog cf k 22 [mkL 1 (sRows l), .sc (.string s)] = some (.sc (.bool (inS l s))) := by
  obtain ⟨k, rfl⟩ : ∃ j, k = j + 1 := ⟨k - 1, by omega⟩
  have hw : ∀ j, j < l.length → IntKind.i64.wrap (((j : Nat) : Int) + 1) = ((j + 1 : Nat) : Int) := fun j hj => wrap_succ (by omega)
  have hin : inS l s = l.any fun x => decide (x = s) := rfl
  have key : ∃ H', arun Tryz.prog cf (k + 1) 22 [mkL 1 (sRows l), .sc (.string s)] [] = some (.sc (.bool (inS l s)), H') := by
    rw [arun_body rfl rfl Tryz.func22 rfl (N := 18) rfl]
    have m1 : mkL 1 (sRows l) = mkL 1 (l.map sC) := rfl
    simp only [R0, RC, zipEnv, Nat.reduceLT, Nat.reduceAdd, Nat.reduceEqDiff, Nat.reduceLeDiff, reduceCtorEq, ↓reduceIte, ares, aresult, pr, Int.reduceEq, Int.reduceLT, Int.reduceLE, Nat.reduceSub, Nat.reduceMul, aFieldAddr, aField, aLoad, aStore, aExtract, aBox, aint, rdVar, rdCells, Value.oneCell', splice, Int.reduceNeg, zvar1, chunks, depth, some_map, Nat.reduceBEq, cf_dyn, okU, Tryz.f22, rf22, m1]
    generalize hA : aloop _ _ _ _ _ _ _ _ _ _ _ = A
    rw [hin, any_find]
    rcases aloop_list hA [0, 1, 7, 8] (fun j => ⟨[(0, mkL 1 (l.map sC)), (1, .sc (.string s)), (7, .sc (.int .i64 l.length)), (8, .sc (.int .i64 (j : Nat)))], []⟩) l (fun x => decide (x = s)) (by omega) rfl (by simp only [R0, RC, zipEnv, Nat.reduceLT, Nat.reduceAdd, Nat.reduceEqDiff, Nat.reduceLeDiff, reduceCtorEq, ↓reduceIte, ares, aresult, pr, Int.reduceEq, Int.reduceLT, Int.reduceLE, Nat.reduceSub, Nat.reduceMul, aFieldAddr, aField, aLoad, aStore, aExtract, aBox, aint, rdVar, rdCells, Value.oneCell', splice, Int.reduceNeg, zvar1, chunks, depth, some_map, Nat.reduceBEq, cf_dyn, okU, Tryz.f22, rf22]; try rfl) (fun j x hj hx hq => by
      simp only [decide_eq_false_iff_not] at hq
      simp only [R0, RC, zipEnv, Nat.reduceLT, Nat.reduceAdd, Nat.reduceEqDiff, Nat.reduceLeDiff, reduceCtorEq, ↓reduceIte, ares, aresult, pr, Int.reduceEq, Int.reduceLT, Int.reduceLE, Nat.reduceSub, Nat.reduceMul, aFieldAddr, aField, aLoad, aStore, aExtract, aBox, aint, rdVar, rdCells, Value.oneCell', splice, Int.reduceNeg, zvar1, chunks, depth, some_map, Nat.reduceBEq, cf_dyn, okU, Tryz.f22, rf22, sC, hj, hx, hw j hj, hq]) (fun j x hj hx hq => by
      simp only [decide_eq_true_eq] at hq
      simp only [R0, RC, zipEnv, Nat.reduceLT, Nat.reduceAdd, Nat.reduceEqDiff, Nat.reduceLeDiff, reduceCtorEq, ↓reduceIte, ares, aresult, pr, Int.reduceEq, Int.reduceLT, Int.reduceLE, Nat.reduceSub, Nat.reduceMul, aFieldAddr, aField, aLoad, aStore, aExtract, aBox, aint, rdVar, rdCells, Value.oneCell', splice, Int.reduceNeg, zvar1, chunks, depth, some_map, Nat.reduceBEq, cf_dyn, okU, Tryz.f22, rf22, sC, hj, hx, hw j hj, hq]
      try rfl) (by simp only [R0, RC, zipEnv, Nat.reduceLT, Nat.reduceAdd, Nat.reduceEqDiff, Nat.reduceLeDiff, reduceCtorEq, ↓reduceIte, ares, aresult, pr, Int.reduceEq, Int.reduceLT, Int.reduceLE, Nat.reduceSub, Nat.reduceMul, aFieldAddr, aField, aLoad, aStore, aExtract, aBox, aint, rdVar, rdCells, Value.oneCell', splice, Int.reduceNeg, zvar1, chunks, depth, some_map, Nat.reduceBEq, cf_dyn, okU, Tryz.f22, rf22]; try rfl) with ⟨h, e⟩ | ⟨j, x, hj, hx, hq, h, e⟩
    · rw [e, h]
      exact ⟨_, by simp only [R0, RC, zipEnv, Nat.reduceLT, Nat.reduceAdd, Nat.reduceEqDiff, Nat.reduceLeDiff, reduceCtorEq, ↓reduceIte, ares, aresult, pr, Int.reduceEq, Int.reduceLT, Int.reduceLE, Nat.reduceSub, Nat.reduceMul, aFieldAddr, aField, aLoad, aStore, aExtract, aBox, aint, rdVar, rdCells, Value.oneCell', splice, Int.reduceNeg, zvar1, chunks, depth, some_map, Nat.reduceBEq, cf_dyn, okU, Tryz.f22, rf22]; rfl⟩
    · simp only [decide_eq_true_eq] at hq
      rw [e, h]
      exact ⟨_, by simp only [R0, RC, zipEnv, Nat.reduceLT, Nat.reduceAdd, Nat.reduceEqDiff, Nat.reduceLeDiff, reduceCtorEq, ↓reduceIte, ares, aresult, pr, Int.reduceEq, Int.reduceLT, Int.reduceLE, Nat.reduceSub, Nat.reduceMul, aFieldAddr, aField, aLoad, aStore, aExtract, aBox, aint, rdVar, rdCells, Value.oneCell', splice, Int.reduceNeg, zvar1, chunks, depth, some_map, Nat.reduceBEq, cf_dyn, okU, Tryz.f22, rf22, sC, hj, hx, hw j hj, hq]; rfl⟩
  obtain ⟨H', e⟩ := key
  exact val_of e rfl rfl
def SizL (l : LitT) : Prop := l.a.args.length ≤ 1000 ∧ l.path.length ≤ 30
def SizR (x : RuleT) : Prop := x.body.length ≤ 1000 ∧ ∀ l ∈ x.body, SizL l
theorem sizL_holds {f : ByteArray} {l : List TermT} (h : l.length ≤ 1000) : SizL (holdsT f l) := ⟨h, by simp [holdsT]⟩
theorem given_le (l : List TermT) (s : ByteArray) : (givenT l s).length ≤ l.length := by
  unfold givenT
  refine Nat.le_trans (givenN_len _ _ _) ?_
  omega
theorem rulS_siz {px : ByteArray} {op : List ByteArray} {used : List D2} : ∀ (ls : List LitT) (s : List LitT × List ByteArray × List RuleT), (∀ l ∈ ls, SizL l) → s.1.length + ls.length ≤ 1000 → (∀ l ∈ s.1, SizL l) → (∀ x ∈ s.2.2, SizR x) →
    (ls.foldl (rulS px op used) s).1.length ≤ 1000 ∧ (∀ l ∈ (ls.foldl (rulS px op used) s).1, SizL l) ∧ ∀ x ∈ (ls.foldl (rulS px op used) s).2.2, SizR x
  | [], s, _, h0, h1, h2 => ⟨by simpa using h0, h1, h2⟩
  | l :: ls, s, hl, h0, h1, h2 => by
    rw [List.foldl_cons]
    have hl0 := hl l (List.mem_cons_self ..)
    rw [List.length_cons] at h0
    refine rulS_siz ls _ (fun y hy => hl y (List.mem_cons_of_mem _ hy)) ?_ ?_ ?_
    · unfold rulS
      split <;> (simp only [List.length_append, List.length_cons, List.length_nil]; omega)
    · unfold rulS
      split
      · intro y hy
        rcases List.mem_append.1 hy with hy | hy
        · exact h1 y hy
        · rw [List.mem_singleton.1 hy]; exact sizL_holds hl0.1
      · intro y hy
        rcases List.mem_append.1 hy with hy | hy
        · exact h1 y hy
        · rw [List.mem_singleton.1 hy]; exact hl0
    · unfold rulS
      split
      · intro y hy
        rcases List.mem_append.1 hy with hy | hy
        · exact h2 y hy
        · rw [List.mem_singleton.1 hy]
          exact ⟨by show s.1.length ≤ 1000; omega, h1⟩
      · exact h2
theorem rulesT_siz {px : ByteArray} {op : List ByteArray} {used : List D2} {x : RuleT} {d : D2} (hb : x.body.length ≤ 900) (hh : x.head.args.length ≤ 1000) (hl : ∀ l ∈ x.body, SizL l) : ∀ y ∈ rulesT px op used x d, SizR y := by
  obtain ⟨h1, h2, h3⟩ := rulS_siz (px := px) (op := op) (used := used) x.body (rul0 px x d) hl (by simp only [rul0, List.length_cons, List.length_nil]; omega) (fun l hm => by
    simp only [rul0, List.mem_singleton] at hm
    rw [hm]
    exact sizL_holds (Nat.le_trans (given_le _ _) hh)) (fun y hm => by simp [rul0] at hm)
  intro y hy
  unfold rulesT at hy
  rcases List.mem_append.1 hy with hy | hy
  · exact h3 y hy
  · rw [List.mem_singleton.1 hy]
    exact ⟨h1, h2⟩
theorem rewT_siz {p : ProgT} {px : ByteArray} {op : List ByteArray} {used : List D2} (hb : ∀ x ∈ p.rules, x.body.length ≤ 900 ∧ x.head.args.length ≤ 1000 ∧ ∀ l ∈ x.body, SizL l) : ∀ y ∈ (rewT px op used p).rules, SizR y := by
  intro y hy
  rw [rewT_rules] at hy
  unfold madeR at hy
  rcases List.mem_append.1 hy with hy | hy
  · rcases List.mem_cons.1 hy with hy | hy
    · rw [hy]; exact ⟨by simp [ask0], fun l hl => by simp [ask0] at hl⟩
    · obtain ⟨d, _, hy⟩ := List.mem_flatMap.1 hy
      unfold dmR at hy
      obtain ⟨x, hx, hy⟩ := List.mem_flatMap.1 hy
      obtain ⟨h1, h2, h3⟩ := hb x (List.mem_filter.1 hx).1
      exact rulesT_siz h1 h2 h3 y hy
  · have hx := (List.mem_filter.1 hy).1
    obtain ⟨h1, h2, h3⟩ := hb y hx
    exact ⟨by omega, h3⟩
theorem fnd_rest (px : ByteArray) (d : D2) : px ++ (foundS px d).extract (fndS px).size (foundS px d).size = askS px d := by
  have e : foundS px d = fndS px ++ (d.2 ++ ⟨#[95]⟩ ++ d.1) := by
    unfold foundS askS fndS
    simp only [ByteArray.append_assoc]
  rw [e, ByteArray.extract_append_eq_right rfl (by rw [ByteArray.size_append])]
  unfold askS
  simp only [ByteArray.append_assoc]
set_option maxHeartbeats 2000000 in
theorem asks_back {p q : ProgT} {px : ByteArray} {x : RuleT} {A : List RuleT} {many n : Int} {i c : Nat} (hi : i = A.length) (hq : ∀ (j : Nat) (y : RuleT), A[j]? = some y → q.rules[j]? = some y) (hcA : c ≤ A.length) (hA : A.length ≤ 100000000) (hx : SizR x)
    (hE : ∀ k : Nat, 1 ≤ k → k ≤ c → ∃ y, A[A.length - k]? = some y ∧ y.body ≠ [] ∧ y.body.length < x.body.length ∧ y.body = x.body.take y.body.length) {k : Nat} (hk : 200000000 ≤ k) {jump : Code → Code → St → Option (AX × St)} {s0 : St} {R : Option (AX × St)} {H : List Blk}
    (h : aloop Tryz.prog (acall cf.mode false (arun Tryz.prog cf k)) (acall cf.mode true (arun Tryz.prog cf k)) jump (pureOf cf.mode) (cf.dyn 5) (cf.keep 5) 211 k (loopAt Tryz.f5 24) s0 = R)
    (h0 : pr [2, 5, 7, 8, 9, 10, 11, 13, 37, 38] s0 = ⟨[(2, .ro p.c), (5, .ro q.c), (7, .sc (.string (fndS px))), (8, .sc (.int .i64 many)), (9, .sc (.int .i64 (i : Nat))), (10, .ro x.c), (11, .sc (.int .i64 (c : Nat))), (13, .sc (.int .i64 1)), (37, .sc (.int .i64 n)), (38, .sc (.int .i64 (i : Nat)))], H⟩) :
    R = some (.exit 4, ⟨[(2, .ro p.c), (5, .ro q.c), (7, .sc (.string (fndS px))), (8, .sc (.int .i64 many)), (9, .sc (.int .i64 (i : Nat))), (10, .ro x.c), (11, .sc (.int .i64 (c : Nat))), (13, .sc (.int .i64 (c + 1 : Nat))), (37, .sc (.int .i64 n)), (38, .sc (.int .i64 (i : Nat))), (142, .sc (.int .i64 (c + 1 : Nat))), (143, .sc (.int .i64 (c : Nat))), (144, .sc (.bool false))], H⟩) := by
  obtain ⟨s, hs, e⟩ := aloop_inv2 h [2, 5, 7, 8, 9, 10, 11, 13, 37, 38] (fun j s => s = ⟨[(2, .ro p.c), (5, .ro q.c), (7, .sc (.string (fndS px))), (8, .sc (.int .i64 many)), (9, .sc (.int .i64 (i : Nat))), (10, .ro x.c), (11, .sc (.int .i64 (c : Nat))), (13, .sc (.int .i64 (j + 1 : Nat))), (37, .sc (.int .i64 n)), (38, .sc (.int .i64 (i : Nat)))], H⟩) c (by omega) rfl h0 (fun j hj s hs => by
    subst hs
    obtain ⟨y, hy, hne, hlt, hxy⟩ := hE (j + 1) (by omega) (by omega)
    have yq := hq _ _ hy
    rw [← hi] at yq
    have c1 : (((j + 1 : Nat) : Int) ≤ (c : Int)) = True := by simp; omega
    have w1 : IntKind.i64.wrap (((i : Nat) : Int) - ((j + 1 : Nat) : Int)) = ((i - (j + 1) : Nat) : Int) := by
      rw [show ((i : Nat) : Int) - ((j + 1 : Nat) : Int) = ((i - (j + 1) : Nat) : Int) by omega]
      exact wrap_nat (by omega)
    have w2 : IntKind.i64.wrap (((j + 1 : Nat) : Int) + 1) = ((j + 1 + 1 : Nat) : Int) := wrap_succ (by omega)
    have c2 : (((i - (j + 1) : Nat) : Int) < 0) = False := by simp
    have c3 : ((x.body.length : Int) ≤ (y.body.length : Int)) = False := by simp; omega
    have hpos : 0 < y.body.length := List.length_pos_iff.2 hne
    have c4 : ((y.body.length : Int) = 0) = False := by simp; exact hne
    have hin := fun (s0 : St) (R : Option (AX × St)) (jump : Code → Code → St → Option (AX × St)) => asks_lit (p := p) (q := q) (px := px) (x := x) (y := y) (many := many) (i := (i : Nat)) (n := n) (c := (c : Nat)) (kk := (j + 1 : Nat)) hx.1 (by omega) hxy (fun l hl => by
      rw [hxy] at hl
      obtain ⟨a, b⟩ := hx.2 l (List.mem_of_mem_take hl)
      exact ⟨a, by omega⟩) (k := k) (by omega) (jump := jump) (s0 := s0) (R := R) (H := H)
    simp only [R0, RC, zipEnv, Nat.reduceLT, Nat.reduceAdd, Nat.reduceEqDiff, Nat.reduceLeDiff, reduceCtorEq, ↓reduceIte, ares, aresult, pr, Int.reduceEq, Int.reduceLT, Int.reduceLE, Nat.reduceSub, Nat.reduceMul, aFieldAddr, aField, aLoad, aStore, aExtract, aBox, aint, rdVar, rdCells, Value.oneCell', splice, Int.reduceNeg, zvar1, chunks, depth, some_map, Nat.reduceBEq, cf_dyn, okU, Tryz.f5, rf5, loopAt, findLoop, firstId, Option.getD_some, Option.some.injEq, Nat.reduceEqDiff, if_false, if_true, RuleT.c, ProgT.c, c1, w1, c2, yq, c3, c4]
    generalize hB : aloop _ _ _ _ _ _ _ _ _ _ _ = B
    have eB := hin _ _ _ hB (by simp only [R0, RC, zipEnv, Nat.reduceLT, Nat.reduceAdd, Nat.reduceEqDiff, Nat.reduceLeDiff, reduceCtorEq, ↓reduceIte, ares, aresult, pr, Int.reduceEq, Int.reduceLT, Int.reduceLE, Nat.reduceSub, Nat.reduceMul, aFieldAddr, aField, aLoad, aStore, aExtract, aBox, aint, rdVar, rdCells, Value.oneCell', splice, Int.reduceNeg, zvar1, chunks, depth, some_map, Nat.reduceBEq, cf_dyn, okU, Tryz.f5, rf5, RuleT.c, ProgT.c]; try rfl)
    rw [eB]
    exact ⟨_, by simp only [R0, RC, zipEnv, Nat.reduceLT, Nat.reduceAdd, Nat.reduceEqDiff, Nat.reduceLeDiff, reduceCtorEq, ↓reduceIte, ares, aresult, pr, Int.reduceEq, Int.reduceLT, Int.reduceLE, Nat.reduceSub, Nat.reduceMul, aFieldAddr, aField, aLoad, aStore, aExtract, aBox, aint, rdVar, rdCells, Value.oneCell', splice, Int.reduceNeg, zvar1, chunks, depth, some_map, Nat.reduceBEq, cf_dyn, okU, Tryz.f5, rf5, loopAt, findLoop, firstId, Option.getD_some, Option.some.injEq, Nat.reduceEqDiff, if_false, if_true, RuleT.c, ProgT.c, w2], rfl⟩) (fun s hs => by
    subst hs
    have c1 : (((c + 1 : Nat) : Int) ≤ (c : Int)) = False := by simp; omega
    simp only [R0, RC, zipEnv, Nat.reduceLT, Nat.reduceAdd, Nat.reduceEqDiff, Nat.reduceLeDiff, reduceCtorEq, ↓reduceIte, ares, aresult, pr, Int.reduceEq, Int.reduceLT, Int.reduceLE, Nat.reduceSub, Nat.reduceMul, aFieldAddr, aField, aLoad, aStore, aExtract, aBox, aint, rdVar, rdCells, Value.oneCell', splice, Int.reduceNeg, zvar1, chunks, depth, some_map, Nat.reduceBEq, cf_dyn, okU, Tryz.f5, rf5, loopAt, findLoop, firstId, Option.getD_some, Option.some.injEq, Nat.reduceEqDiff, if_false, if_true, c1])
  subst hs
  rw [e]
  have c1 : (((c + 1 : Nat) : Int) ≤ (c : Int)) = False := by simp; omega
  simp only [R0, RC, zipEnv, Nat.reduceLT, Nat.reduceAdd, Nat.reduceEqDiff, Nat.reduceLeDiff, reduceCtorEq, ↓reduceIte, ares, aresult, pr, Int.reduceEq, Int.reduceLT, Int.reduceLE, Nat.reduceSub, Nat.reduceMul, aFieldAddr, aField, aLoad, aStore, aExtract, aBox, aint, rdVar, rdCells, Value.oneCell', splice, Int.reduceNeg, zvar1, chunks, depth, some_map, Nat.reduceBEq, cf_dyn, okU, Tryz.f5, rf5, loopAt, findLoop, firstId, Option.getD_some, Option.some.injEq, Nat.reduceEqDiff, if_false, if_true, c1]
end Go.Proofs.YtpgipdajinkdgaaGreatA
