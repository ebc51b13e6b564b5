/- A part of the proof of MagicLeft: functions of the program, run by the evaluator. -/

/- MagicLeft. -/
import Derived.Test.YtpgipdajinkdgaaGreatMG
import Derived.Test.YtpgipdajinkdgaaGreatME
import Derived.Test.YtpgipdajinkdgaaGreatMF
namespace Go.Proofs.YtpgipdajinkdgaaGreatA
open Go Go.RowKit
set_option linter.all false
set_option linter.unusedSectionVars false
set_option linter.constructorNameAsVariable false
set_option linter.unusedVariables false
set_option linter.unusedSimpArgs false
set_option maxHeartbeats 2000000 in
theorem left_body {p q : ProgT} {px : ByteArray} {x : RuleT} {v : AV} {n j : Int} (hb : x.body.length ≤ 1000) (hx : ∀ l ∈ x.body, badL p px l = false) (hpr : p.rules.length ≤ 1000) (hpb : ∀ r ∈ p.rules, r.body.length ≤ 1000) {k : Nat} (hk : 2000 ≤ k) {jump : Code → Code → St → Option (AX × St)} {s0 : St} {R : Option (AX × St)} {H : List Blk}
    (h : aloop Tryz.prog (acall cf.mode false (arun Tryz.prog cf k)) (acall cf.mode true (arun Tryz.prog cf k)) jump (pureOf cf.mode) (cf.dyn 4) (cf.keep 4) 146 k (loopAt Tryz.f4 26) s0 = R)
    (h0 : pr [2, 5, 8, 9, 12, 64, 65, 97, 98] s0 = ⟨[(2, .ro p.c), (5, .ro q.c), (8, .fn 18 [.ro [.sc (.string px)]]), (9, v), (12, .ro x.c), (64, .sc (.int .i64 n)), (65, .sc (.int .i64 j)), (97, .sc (.int .i64 x.body.length)), (98, .sc (.int .i64 0))], H⟩) :
    R = some (.exit 4, ⟨[(2, .ro p.c), (5, .ro q.c), (8, .fn 18 [.ro [.sc (.string px)]]), (9, v), (12, .ro x.c), (64, .sc (.int .i64 n)), (65, .sc (.int .i64 j)), (97, .sc (.int .i64 x.body.length)), (98, .sc (.int .i64 x.body.length)), (99, .sc (.bool false))], H⟩) := by
  have hw := wraps (n := x.body.length) (by omega)
  obtain ⟨s, hs, e⟩ := aloop_inv2 h [2, 5, 8, 9, 12, 64, 65, 97, 98] (fun i s => s = ⟨[(2, .ro p.c), (5, .ro q.c), (8, .fn 18 [.ro [.sc (.string px)]]), (9, v), (12, .ro x.c), (64, .sc (.int .i64 n)), (65, .sc (.int .i64 j)), (97, .sc (.int .i64 x.body.length)), (98, .sc (.int .i64 (i : Nat)))], H⟩) x.body.length (by omega) rfl h0 (fun i hi s hs => by
    subst hs
    obtain ⟨l, hl⟩ : ∃ l, l = x.body[i] := ⟨_, rfl⟩
    have xl : x.body[i]? = some l := by rw [hl]; exact List.getElem?_eq_getElem hi
    have hbad := hx l (List.mem_of_getElem? xl)
    have hou := ours_run l.a.p px k (by omega)
    have hde := derived_run p l.a.p hpr hpb k (by omega)
    simp only [ProgT.c] at hde
    unfold badL at hbad
    simp only [Bool.or_eq_false_iff, decide_eq_false_iff_not] at hbad
    obtain ⟨b2, b5, b1⟩ := hbad
    by_cases hk1 : l.k = 1
    · cases hpre : preB l.a.p px with
      | true =>
        rw [hpre] at hou
        exact ⟨_, by simp only [R0, RC, zipEnv, Nat.reduceLT, Nat.reduceAdd, Nat.reduceEqDiff, Nat.reduceLeDiff, reduceCtorEq, ↓reduceIte, ares, aresult, pr, Int.reduceEq, Int.reduceLT, Int.reduceLE, Nat.reduceSub, Nat.reduceMul, aFieldAddr, aField, aLoad, aStore, aExtract, aBox, aint, rdVar, rdCells, Value.oneCell', splice, Int.reduceNeg, zvar1, chunks, depth, some_map, Nat.reduceBEq, cf_dyn, okU, Tryz.f4, rf4, loopAt, findLoop, firstId, Option.getD_some, Option.some.injEq, Nat.reduceEqDiff, if_false, if_true, RuleT.c, LitT.c, ProgT.c, hi, xl, hw i hi, hk1, hou, hde], rfl⟩
      | false =>
        have hdb : derB p l.a.p = false := by simpa [hk1, hpre] using b1
        rw [hpre] at hou
        rw [hdb] at hde
        exact ⟨_, by simp only [R0, RC, zipEnv, Nat.reduceLT, Nat.reduceAdd, Nat.reduceEqDiff, Nat.reduceLeDiff, reduceCtorEq, ↓reduceIte, ares, aresult, pr, Int.reduceEq, Int.reduceLT, Int.reduceLE, Nat.reduceSub, Nat.reduceMul, aFieldAddr, aField, aLoad, aStore, aExtract, aBox, aint, rdVar, rdCells, Value.oneCell', splice, Int.reduceNeg, zvar1, chunks, depth, some_map, Nat.reduceBEq, cf_dyn, okU, Tryz.f4, rf4, loopAt, findLoop, firstId, Option.getD_some, Option.some.injEq, Nat.reduceEqDiff, if_false, if_true, RuleT.c, LitT.c, ProgT.c, hi, xl, hw i hi, hk1, hou, hde], rfl⟩
    · exact ⟨_, by simp only [R0, RC, zipEnv, Nat.reduceLT, Nat.reduceAdd, Nat.reduceEqDiff, Nat.reduceLeDiff, reduceCtorEq, ↓reduceIte, ares, aresult, pr, Int.reduceEq, Int.reduceLT, Int.reduceLE, Nat.reduceSub, Nat.reduceMul, aFieldAddr, aField, aLoad, aStore, aExtract, aBox, aint, rdVar, rdCells, Value.oneCell', splice, Int.reduceNeg, zvar1, chunks, depth, some_map, Nat.reduceBEq, cf_dyn, okU, Tryz.f4, rf4, loopAt, findLoop, firstId, Option.getD_some, Option.some.injEq, Nat.reduceEqDiff, if_false, if_true, RuleT.c, LitT.c, ProgT.c, hi, xl, hw i hi, b2, b5, hk1, hou, hde], rfl⟩) (fun s hs => by
    subst hs
    simp only [R0, RC, zipEnv, Nat.reduceLT, Nat.reduceAdd, Nat.reduceEqDiff, Nat.reduceLeDiff, reduceCtorEq, ↓reduceIte, ares, aresult, pr, Int.reduceEq, Int.reduceLT, Int.reduceLE, Nat.reduceSub, Nat.reduceMul, aFieldAddr, aField, aLoad, aStore, aExtract, aBox, aint, rdVar, rdCells, Value.oneCell', splice, Int.reduceNeg, zvar1, chunks, depth, some_map, Nat.reduceBEq, cf_dyn, okU, Tryz.f4, rf4, loopAt, findLoop, firstId, Option.getD_some, Option.some.injEq, Nat.reduceEqDiff, if_false, if_true])
  subst hs
  rw [e]
  simp only [R0, RC, zipEnv, Nat.reduceLT, Nat.reduceAdd, Nat.reduceEqDiff, Nat.reduceLeDiff, reduceCtorEq, ↓reduceIte, ares, aresult, pr, Int.reduceEq, Int.reduceLT, Int.reduceLE, Nat.reduceSub, Nat.reduceMul, aFieldAddr, aField, aLoad, aStore, aExtract, aBox, aint, rdVar, rdCells, Value.oneCell', splice, Int.reduceNeg, zvar1, chunks, depth, some_map, Nat.reduceBEq, cf_dyn, okU, Tryz.f4, rf4, loopAt, findLoop, firstId, Option.getD_some, Option.some.injEq, Nat.reduceEqDiff, if_false, if_true]
structure BaseR (H : List Blk) (v : AV) (rs : List RuleT) : Prop where
  top : OutAt 50 4 H v (rs.map RuleT.c)
theorem rule_row {rs : List RuleT} : ∀ r ∈ rs.map RuleT.c, r.length = 4 := fun r hr => by
  obtain ⟨x, _, rfl⟩ := List.mem_map.1 hr
  rfl
theorem left_base {p q : ProgT} {px : ByteArray} (hpr : p.rules.length ≤ 1000) (hpb : ∀ r ∈ p.rules, r.body.length ≤ 1000) {k : Nat} (hk : 2000 ≤ k) {jump : Code → Code → St → Option (AX × St)} {s0 : St} {R : Option (AX × St)} {H : List Blk}
    (h : aloop Tryz.prog (acall cf.mode false (arun Tryz.prog cf k)) (acall cf.mode true (arun Tryz.prog cf k)) jump (pureOf cf.mode) (cf.dyn 4) (cf.keep 4) 146 k (loopAt Tryz.f4 10) s0 = R)
    (h0 : pr [2, 5, 8, 9, 39, 40] s0 = ⟨[(2, .ro p.c), (5, .ro q.c), (8, .fn 18 [.ro [.sc (.string px)]]), (9, .sc (.slice none 0 0)), (39, .sc (.int .i64 p.rules.length)), (40, .sc (.int .i64 0))], H⟩) :
    ∃ H' v, BaseR H' v (baseR p) ∧ R = some (.exit 0, ⟨[(2, .ro p.c), (5, .ro q.c), (8, .fn 18 [.ro [.sc (.string px)]]), (9, v), (39, .sc (.int .i64 p.rules.length)), (40, .sc (.int .i64 p.rules.length)), (41, .sc (.bool false))], H'⟩) := by
  have hw := wraps (n := p.rules.length) (by omega)
  obtain ⟨s, ⟨H', v, hB, hs⟩, e⟩ := aloop_inv2 h [2, 5, 8, 9, 39, 40] (fun j s => ∃ H' v, BaseR H' v ((p.rules.take j).filter fun x => !derB p x.head.p) ∧ s = ⟨[(2, .ro p.c), (5, .ro q.c), (8, .fn 18 [.ro [.sc (.string px)]]), (9, v), (39, .sc (.int .i64 p.rules.length)), (40, .sc (.int .i64 (j : Nat)))], H'⟩) p.rules.length (by omega) rfl ⟨H, _, ⟨.inl ⟨rfl, rfl⟩⟩, h0⟩ (fun j hj s ⟨H', v, hB, hs⟩ => by
    subst hs
    obtain ⟨x, hx⟩ : ∃ x, x = p.rules[j] := ⟨_, rfl⟩
    have xj : p.rules[j]? = some x := by rw [hx]; exact List.getElem?_eq_getElem hj
    have hd := derived_run p x.head.p hpr hpb k (by omega)
    simp only [ProgT.c] at hd
    rw [List.take_succ_eq_append_getElem hj, List.filter_append, ← hx]
    have hfl := List.length_filter_le (fun x : RuleT => !derB p x.head.p) (p.rules.take j)
    rw [List.length_take] at hfl
    generalize (p.rules.take j).filter (fun x => !derB p x.head.p) = rs at *
    cases hdb : derB p x.head.p with
    | true =>
      rw [hdb] at hd
      have hf : [x].filter (fun x => !derB p x.head.p) = [] := by simp [hdb]
      rw [hf, List.append_nil]
      exact ⟨_, by simp only [R0, RC, zipEnv, Nat.reduceLT, Nat.reduceAdd, Nat.reduceEqDiff, Nat.reduceLeDiff, reduceCtorEq, ↓reduceIte, ares, aresult, pr, Int.reduceEq, Int.reduceLT, Int.reduceLE, Nat.reduceSub, Nat.reduceMul, aFieldAddr, aField, aLoad, aStore, aExtract, aBox, aint, rdVar, rdCells, Value.oneCell', splice, Int.reduceNeg, zvar1, chunks, depth, some_map, Nat.reduceBEq, cf_dyn, okU, Tryz.f4, rf4, loopAt, findLoop, firstId, Option.getD_some, Option.some.injEq, Nat.reduceEqDiff, if_false, if_true, RuleT.c, ProgT.c, hj, xj, hw j hj, hd], _, _, hB, rfl⟩
    | false =>
      rw [hdb] at hd
      have hf : [x].filter (fun x => !derB p x.head.p) = [x] := by simp [hdb]
      rw [hf]
      obtain ⟨v', H2, e2, o2, _, _, _⟩ := appF (r := x.c) ro38 hB.top rule_row rfl (rule_one' x) (by rw [List.length_map]; omega) (by rw [List.length_map]; unfold maxLen; omega)
      simp only [RuleT.c] at e2
      exact ⟨_, by
        simp only [R0, RC, zipEnv, Nat.reduceLT, Nat.reduceAdd, Nat.reduceEqDiff, Nat.reduceLeDiff, reduceCtorEq, ↓reduceIte, ares, aresult, pr, Int.reduceEq, Int.reduceLT, Int.reduceLE, Nat.reduceSub, Nat.reduceMul, aFieldAddr, aField, aLoad, aStore, aExtract, aBox, aint, rdVar, rdCells, Value.oneCell', splice, Int.reduceNeg, zvar1, chunks, depth, some_map, Nat.reduceBEq, cf_dyn, okU, Tryz.f4, rf4, loopAt, findLoop, firstId, Option.getD_some, Option.some.injEq, Nat.reduceEqDiff, if_false, if_true, RuleT.c, ProgT.c, hj, xj, hw j hj, hd, e2]
        try rfl, _, _, ⟨by rw [List.map_append]; exact o2⟩, rfl⟩) (fun s ⟨H', v, hB, hs⟩ => by
    subst hs
    simp only [R0, RC, zipEnv, Nat.reduceLT, Nat.reduceAdd, Nat.reduceEqDiff, Nat.reduceLeDiff, reduceCtorEq, ↓reduceIte, ares, aresult, pr, Int.reduceEq, Int.reduceLT, Int.reduceLE, Nat.reduceSub, Nat.reduceMul, aFieldAddr, aField, aLoad, aStore, aExtract, aBox, aint, rdVar, rdCells, Value.oneCell', splice, Int.reduceNeg, zvar1, chunks, depth, some_map, Nat.reduceBEq, cf_dyn, okU, Tryz.f4, rf4, loopAt, findLoop, firstId, Option.getD_some, Option.some.injEq, Nat.reduceEqDiff, if_false, if_true])
  subst hs
  rw [List.take_length] at hB
  refine ⟨H', v, hB, ?_⟩
  rw [e]
  simp only [R0, RC, zipEnv, Nat.reduceLT, Nat.reduceAdd, Nat.reduceEqDiff, Nat.reduceLeDiff, reduceCtorEq, ↓reduceIte, ares, aresult, pr, Int.reduceEq, Int.reduceLT, Int.reduceLE, Nat.reduceSub, Nat.reduceMul, aFieldAddr, aField, aLoad, aStore, aExtract, aBox, aint, rdVar, rdCells, Value.oneCell', splice, Int.reduceNeg, zvar1, chunks, depth, some_map, Nat.reduceBEq, cf_dyn, okU, Tryz.f4, rf4, loopAt, findLoop, firstId, Option.getD_some, Option.some.injEq, Nat.reduceEqDiff, if_false, if_true]
def leftV (n b ver i : Nat) : AV := if i = n then (if n = 0 then .sc (.slice none 0 0) else .lst 4 []) else .own b i (n - i) 4 ver
theorem leftV_at {n b ver i : Nat} (h : i < n) : leftV n b ver i = .own b i (n - i) 4 ver := by
  unfold leftV
  rw [if_neg (by omega)]
theorem leftV_of {H : List Blk} {v : AV} {rs : List RuleT} (h : BaseR H v rs) : ∃ b ver, v = leftV rs.length b ver 0 ∧ (rs ≠ [] → H[b]? = some ⟨50, 4, ver, true, (rs.map RuleT.c).flatten, .cells⟩) := by
  rcases h.top with ⟨h1, h2⟩ | ⟨h1, b, ver, h2, h3⟩
  · have : rs = [] := by simpa using h1
    subst this
    exact ⟨0, 0, h2, fun h => absurd rfl h⟩
  · have : 0 < rs.length := by
      rcases Nat.eq_zero_or_pos rs.length with h | h
      · exact absurd (by rw [List.eq_nil_of_length_eq_zero h]; rfl) h1
      · exact h
    refine ⟨b, ver, ?_, fun _ => h3⟩
    rw [leftV_at this, h2, List.length_map, Nat.sub_zero]
theorem flat_rule {rs : List RuleT} {i : Nat} {x : RuleT} (h : rs[i]? = some x) : (rs.map RuleT.c).flatten.length = rs.length * 4 ∧ ((rs.map RuleT.c).flatten.drop (i * 4)).take 4 = x.c := by
  induction rs generalizing i with
  | nil => simp at h
  | cons r rs ih =>
    have hl : ∀ rs : List RuleT, (rs.map RuleT.c).flatten.length = rs.length * 4 := by
      intro rs
      induction rs with
      | nil => rfl
      | cons r rs ih => rw [List.map_cons, List.flatten_cons, List.length_append, ih, List.length_cons, Nat.add_mul]; show 4 + _ = _; omega
    refine ⟨hl _, ?_⟩
    have hr : r.c.length = 4 := rfl
    cases i with
    | zero =>
      simp only [List.getElem?_cons_zero, Option.some.injEq] at h
      subst h
      rw [Nat.zero_mul, List.drop_zero, List.map_cons, List.flatten_cons]
      exact List.take_left' hr
    | succ i =>
      simp only [List.getElem?_cons_succ] at h
      have := (ih h).2
      rw [List.map_cons, List.flatten_cons, show (i + 1) * 4 = r.c.length + i * 4 by rw [hr]; omega, ← List.drop_drop, List.drop_left]
      exact this
set_option maxHeartbeats 4000000 in
theorem left_main {p q : ProgT} {px : ByteArray} {made base : List RuleT} (hq : q.rules = made ++ base) (hm : ∀ x ∈ made, Made p px x) (hbs : ∀ x ∈ base, preB x.head.p px = false) (hsz : ∀ x ∈ base, x.head.args.length ≤ 1000 ∧ x.body.length ≤ 1000 ∧ ∀ l ∈ x.body, l.a.args.length ≤ 1000 ∧ l.path.length ≤ 1000) (hql : q.rules.length ≤ 99000000) (hpr : p.rules.length ≤ 1000) (hpb : ∀ r ∈ p.rules, r.body.length ≤ 1000) {k : Nat} (hk : 100000000 ≤ k) {jump : Code → Code → St → Option (AX × St)} {s0 : St} {R : Option (AX × St)} {H : List Blk} {b ver : Nat} (hblk : base ≠ [] → H[b]? = some ⟨50, 4, ver, true, (base.map RuleT.c).flatten, .cells⟩)
    (h : aloop Tryz.prog (acall cf.mode false (arun Tryz.prog cf k)) (acall cf.mode true (arun Tryz.prog cf k)) jump (pureOf cf.mode) (cf.dyn 4) (cf.keep 4) 146 k (loopAt Tryz.f4 16) s0 = R)
    (h0 : pr [2, 5, 8, 9, 64, 65] s0 = ⟨[(2, .ro p.c), (5, .ro q.c), (8, .fn 18 [.ro [.sc (.string px)]]), (9, leftV base.length b ver 0), (64, .sc (.int .i64 q.rules.length)), (65, .sc (.int .i64 0))], H⟩) :
    R = some (.exit 2, ⟨[(2, .ro p.c), (5, .ro q.c), (8, .fn 18 [.ro [.sc (.string px)]]), (9, leftV base.length b ver base.length), (64, .sc (.int .i64 q.rules.length)), (65, .sc (.int .i64 q.rules.length)), (66, .sc (.bool false))], H⟩) := by
  have hw : ∀ j, j < q.rules.length → IntKind.i64.wrap (((j : Nat) : Int) + 1) = ((j + 1 : Nat) : Int) := fun j hj => wrap_succ (by omega)
  have hlen : q.rules.length = made.length + base.length := by rw [hq, List.length_append]
  obtain ⟨s, hs, e⟩ := aloop_inv2 h [2, 5, 8, 9, 64, 65] (fun j s => s = ⟨[(2, .ro p.c), (5, .ro q.c), (8, .fn 18 [.ro [.sc (.string px)]]), (9, leftV base.length b ver (j - made.length)), (64, .sc (.int .i64 q.rules.length)), (65, .sc (.int .i64 (j : Nat)))], H⟩) q.rules.length (by omega) rfl (by rw [h0, Nat.zero_sub]; rfl) (fun j hj s hs => by
    subst hs
    obtain ⟨x, hx⟩ : ∃ x, x = q.rules[j] := ⟨_, rfl⟩
    have xj : q.rules[j]? = some x := by rw [hx]; exact List.getElem?_eq_getElem hj
    have hou := ours_run x.head.p px k (by omega)
    by_cases hjm : j < made.length
    · have hxm : x ∈ made := by
        have := xj
        rw [hq, List.getElem?_append_left hjm] at this
        exact List.mem_of_getElem? this
      have M := hm x hxm
      have z1 : j - made.length = 0 := by omega
      have z2 : j + 1 - made.length = 0 := by omega
      rw [M.head] at hou
      rw [z1, z2]
      have hfo := M.fold
      have hin := fun (s0 : St) (R : Option (AX × St)) (jump : Code → Code → St → Option (AX × St)) => left_body (p := p) (q := q) (px := px) (x := x) (v := leftV base.length b ver 0) (n := q.rules.length) (j := j) M.len M.body hpr hpb (k := k) (by omega) (jump := jump) (s0 := s0) (R := R) (H := H)
      simp only [R0, RC, zipEnv, Nat.reduceLT, Nat.reduceAdd, Nat.reduceEqDiff, Nat.reduceLeDiff, reduceCtorEq, ↓reduceIte, ares, aresult, pr, Int.reduceEq, Int.reduceLT, Int.reduceLE, Nat.reduceSub, Nat.reduceMul, aFieldAddr, aField, aLoad, aStore, aExtract, aBox, aint, rdVar, rdCells, Value.oneCell', splice, Int.reduceNeg, zvar1, chunks, depth, some_map, Nat.reduceBEq, cf_dyn, okU, Tryz.f4, rf4, loopAt, findLoop, firstId, Option.getD_some, Option.some.injEq, Nat.reduceEqDiff, if_false, if_true, RuleT.c, ProgT.c, hj, xj, hw j hj, hou, hfo]
      generalize hB : aloop _ _ _ _ _ _ _ _ _ _ _ = B
      have eB := hin _ _ _ hB (by simp only [R0, RC, zipEnv, Nat.reduceLT, Nat.reduceAdd, Nat.reduceEqDiff, Nat.reduceLeDiff, reduceCtorEq, ↓reduceIte, ares, aresult, pr, Int.reduceEq, Int.reduceLT, Int.reduceLE, Nat.reduceSub, Nat.reduceMul, aFieldAddr, aField, aLoad, aStore, aExtract, aBox, aint, rdVar, rdCells, Value.oneCell', splice, Int.reduceNeg, zvar1, chunks, depth, some_map, Nat.reduceBEq, cf_dyn, okU, Tryz.f4, rf4, RuleT.c, ProgT.c, hfo]; try rfl)
      rw [eB]
      exact ⟨_, by simp only [R0, RC, zipEnv, Nat.reduceLT, Nat.reduceAdd, Nat.reduceEqDiff, Nat.reduceLeDiff, reduceCtorEq, ↓reduceIte, ares, aresult, pr, Int.reduceEq, Int.reduceLT, Int.reduceLE, Nat.reduceSub, Nat.reduceMul, aFieldAddr, aField, aLoad, aStore, aExtract, aBox, aint, rdVar, rdCells, Value.oneCell', splice, Int.reduceNeg, zvar1, chunks, depth, some_map, Nat.reduceBEq, cf_dyn, okU, Tryz.f4, rf4, loopAt, findLoop, firstId, Option.getD_some, Option.some.injEq, Nat.reduceEqDiff, if_false, if_true, RuleT.c, ProgT.c, hw j hj, hfo], rfl⟩
    · obtain ⟨i, hi⟩ : ∃ i, i = j - made.length := ⟨_, rfl⟩
      have hib : i < base.length := by omega
      have z2 : j + 1 - made.length = i + 1 := by omega
      have xb : base[i]? = some x := by
        have := xj
        rw [hq, List.getElem?_append_right (by omega), ← hi] at this
        exact this
      have hxb := List.mem_of_getElem? xb
      rw [hbs x hxb] at hou
      have hne : base ≠ [] := fun e => by rw [e] at hib; simp at hib
      have hH := hblk hne
      obtain ⟨fl, fr⟩ := flat_rule xb
      obtain ⟨s1, s2, s3⟩ := hsz x hxb
      have hsame := sameRule_run x s1 s2 s3 k (by omega)
      rw [z2, ← hi, leftV_at hib]
      obtain ⟨d, hd⟩ : ∃ d, d = base.length - i := ⟨_, rfl⟩
      have hd0 : ¬ ((d : Nat) : Int) = 0 := by omega
      have hix : aIndexAddr Tryz.prog H 38 (.own b i d 4 ver) (.sc (.int .i64 0)) = some (.val (.ptr b (i * 4) ver)) := by
        have := aIndexAddr_own (P := Tryz.prog) (H := H) (t := 38) (o := i) (len := d) (i := 0) (k := .i64) Tryz.underlying38 sz50 (blkAt_some' hH rfl rfl) (by omega)
        simpa using this
      have hsl : ∀ ρ o, aSliceG Tryz.prog H ρ o 38 (.own b i d 4 ver) (some (.sc (.int .i64 1))) none = some (.val (leftV base.length b ver (i + 1))) := fun ρ o => by
        rw [slG_own, Tryz.underlying38]
        have b1 : bnd (some (.sc (.int .i64 1))) 0 d = some 1 := by
          simp [bnd, aint]
          omega
        have b0 : bnd none d d = some d := rfl
        rw [b0, blkAt_some' hH rfl rfl]
        simp only [b1, sz50]
        unfold leftV
        by_cases hl : i + 1 = base.length
        · have : d = 1 := by omega
          subst this
          have : base.length ≠ 0 := by omega
          simp [hl, this]
        · have : ¬ 1 = d := by omega
          have e2 : base.length - (i + 1) = d - 1 := by omega
          simp [hl, this, e2]
      rw [← hd]
      have hfit : i * 4 + 4 ≤ (base.map RuleT.c).flatten.length := by omega
      simp only [RuleT.c] at hsame fr
      exact ⟨_, by simp only [R0, RC, zipEnv, Nat.reduceLT, Nat.reduceAdd, Nat.reduceEqDiff, Nat.reduceLeDiff, reduceCtorEq, ↓reduceIte, ares, aresult, pr, Int.reduceEq, Int.reduceLT, Int.reduceLE, Nat.reduceSub, Nat.reduceMul, aFieldAddr, aField, aLoad, aStore, aExtract, aBox, aint, rdVar, rdCells, Value.oneCell', splice, Int.reduceNeg, zvar1, chunks, depth, some_map, Nat.reduceBEq, cf_dyn, okU, Tryz.f4, rf4, loopAt, findLoop, firstId, Option.getD_some, Option.some.injEq, Nat.reduceEqDiff, if_false, if_true, RuleT.c, ProgT.c, hj, xj, hw j hj, hou, hd0, hix, hH, hfit, fr, hsame, hsl], rfl⟩) (fun s hs => by
    subst hs
    simp only [R0, RC, zipEnv, Nat.reduceLT, Nat.reduceAdd, Nat.reduceEqDiff, Nat.reduceLeDiff, reduceCtorEq, ↓reduceIte, ares, aresult, pr, Int.reduceEq, Int.reduceLT, Int.reduceLE, Nat.reduceSub, Nat.reduceMul, aFieldAddr, aField, aLoad, aStore, aExtract, aBox, aint, rdVar, rdCells, Value.oneCell', splice, Int.reduceNeg, zvar1, chunks, depth, some_map, Nat.reduceBEq, cf_dyn, okU, Tryz.f4, rf4, loopAt, findLoop, firstId, Option.getD_some, Option.some.injEq, Nat.reduceEqDiff, if_false, if_true])
  subst hs
  rw [e, hlen, Nat.add_sub_cancel_left]
  simp only [R0, RC, zipEnv, Nat.reduceLT, Nat.reduceAdd, Nat.reduceEqDiff, Nat.reduceLeDiff, reduceCtorEq, ↓reduceIte, ares, aresult, pr, Int.reduceEq, Int.reduceLT, Int.reduceLE, Nat.reduceSub, Nat.reduceMul, aFieldAddr, aField, aLoad, aStore, aExtract, aBox, aint, rdVar, rdCells, Value.oneCell', splice, Int.reduceNeg, zvar1, chunks, depth, some_map, Nat.reduceBEq, cf_dyn, okU, Tryz.f4, rf4, loopAt, findLoop, firstId, Option.getD_some, Option.some.injEq, Nat.reduceEqDiff, if_false, if_true]
end Go.Proofs.YtpgipdajinkdgaaGreatA
