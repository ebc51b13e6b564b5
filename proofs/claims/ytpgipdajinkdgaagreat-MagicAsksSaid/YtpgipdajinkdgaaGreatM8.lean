/- magic.Rewrite, run. -/
import Derived.Test.YtpgipdajinkdgaaGreatM6
import Derived.Test.YtpgipdajinkdgaaGreatN23
namespace Go.Proofs.YtpgipdajinkdgaaGreatA
open Go Go.RowKit
set_option linter.all false
set_option linter.unusedSectionVars false
set_option linter.constructorNameAsVariable false
set_option linter.unusedVariables false
set_option linter.unusedSimpArgs false
def dmR (px : ByteArray) (op : List ByteArray) (used : List D2) (p : ProgT) (d : D2) : List RuleT := (p.rules.filter fun x => decide (x.head.p = d.1)).flatMap fun x => rulesT px op used x d
def baseR (p : ProgT) : List RuleT := p.rules.filter fun x => !derB p x.head.p
def firstD (used : List D2) (p : ProgT) : D2 := (useD used (p.query.p, patS [] p.query.args)).1
def ask0 (px : ByteArray) (used : List D2) (p : ProgT) : RuleT := ⟨⟨askS px (firstD used p), givenT p.query.args (firstD used p).2⟩, 0, []⟩
def rewT (px : ByteArray) (op : List ByteArray) (used : List D2) (p : ProgT) : ProgT :=
  ⟨ask0 px used p :: (used.flatMap (dmR px op used p) ++ baseR p), ⟨foundS px (firstD used p), p.query.args⟩⟩
structure RewH (p : ProgT) (px : ByteArray) (op : List ByteArray) (used : List D2) (H : List Blk) (rs : List RuleT) : Prop where
  ex : ∃ v ws, OutAt 50 4 H v ws ∧ AllR ws rs ∧ blkB v ≠ some 0 ∧ blkB v ≠ some 1 ∧ blkB v ≠ some 2 ∧
    H[2]? = some ⟨40, 3, 0, false, [v, .sc (.string (foundS px (firstD used p))), mkL 4 (p.query.args.map TermT.c)], .cells⟩ ∧
    H[1]? = some ⟨65, 3, 0, false, [.sc (.string px), mkL 1 (sRows op), mkL 2 (dRows used)], .cells⟩ ∧
    ∃ c0, H[0]? = some ⟨40, 3, 0, false, c0, .cells⟩ ∧ c0.length = 3
structure RewS (p : ProgT) (px : ByteArray) (op : List ByteArray) (used : List D2) : Prop where
  pxS : px.size ≤ 10000000000000000
  opS : op.length ≤ 1000
  usedS : used.length ≤ 1000
  ds : ∀ u ∈ used, u.1.size ≤ 10000000000000000 ∧ u.2.size ≤ 1000
  rules : p.rules.length ≤ 1000
  query : p.query.args.length ≤ 10
  head : ∀ r ∈ p.rules, r.head.args.length ≤ 10
  body : ∀ r ∈ p.rules, r.body.length ≤ 10
  args : ∀ r ∈ p.rules, ∀ l ∈ r.body, l.a.args.length ≤ 10
theorem rulesT_len {px : ByteArray} {op : List ByteArray} {used : List D2} {x : RuleT} {d : D2} (hb : x.body.length ≤ 10) : (rulesT px op used x d).length ≤ 11 ∧ rulesT px op used x d ≠ [] := by
  have h : ∀ (ls : List LitT) (s : List LitT × List ByteArray × List RuleT), (ls.foldl (rulS px op used) s).2.2.length ≤ s.2.2.length + ls.length := by
    intro ls
    induction ls with
    | nil => intro s; simp
    | cons l ls ih =>
      intro s
      have := ih (rulS px op used s l)
      have e3 : (rulS px op used s l).2.2.length ≤ s.2.2.length + 1 := by unfold rulS; split <;> simp
      rw [List.foldl_cons, List.length_cons]
      omega
  have := h x.body (rul0 px x d)
  have b8 : (rul0 px x d).2.2 = [] := rfl
  rw [b8] at this
  unfold rulesT
  refine ⟨by rw [List.length_append, List.length_singleton]; simp only [List.length_nil] at this; omega, by simp⟩
theorem RewH.more {p : ProgT} {px : ByteArray} {op : List ByteArray} {used : List D2} {H : List Blk} {rs more : List RuleT} {mw : List (List AV)} (h : RewH p px op used H rs) (hm : AllR mw more) (hne : rs ≠ []) (hmn : more ≠ []) (hl : rs.length + more.length ≤ 100000000) :
    ∃ v v' H', H[2]? = some ⟨40, 3, 0, false, [v, .sc (.string (foundS px (firstD used p))), mkL 4 (p.query.args.map TermT.c)], .cells⟩ ∧
      H[1]? = some ⟨65, 3, 0, false, [.sc (.string px), mkL 1 (sRows op), mkL 2 (dRows used)], .cells⟩ ∧
      outH H (aappend Tryz.prog H 38 v (mkL 4 mw)) = some (v', H') ∧
      H'[2]? = some ⟨40, 3, 0, false, [v, .sc (.string (foundS px (firstD used p))), mkL 4 (p.query.args.map TermT.c)], .cells⟩ ∧ one v' = true ∧ solid v' = true ∧ acells v' = [v'] ∧
      RewH p px op used (H'.set 2 ⟨40, 3, 0, false, [v', .sc (.string (foundS px (firstD used p))), mkL 4 (p.query.args.map TermT.c)], .cells⟩) (rs ++ more) := by
  obtain ⟨v, ws, ho, ha, n0, n1, n2, h2, h1, c0, h0, hc0⟩ := h
  have hwne : ws ≠ [] := by
    intro e
    have := ha.1
    rw [e] at this
    exact hne (List.eq_nil_of_length_eq_zero this.symm)
  have hmne : mw ≠ [] := by
    intro e
    have := hm.1
    rw [e] at this
    exact hmn (List.eq_nil_of_length_eq_zero this.symm)
  have hones : ∀ r ∈ mw, r.all one = true := fun r hr => by
    obtain ⟨i, hi⟩ := List.getElem?_of_mem hr
    have hlt := (List.getElem?_eq_some_iff.1 hi).1
    exact (hm.2 i r (more[i]'(by have := hm.1; omega)) hi (List.getElem?_eq_getElem _)).ones
  obtain ⟨v', H', e1, o1, l1, k1, s1⟩ := appFm (more := mw) ro38 ho ha.len hwne hmne hones (by rw [ha.1, hm.1]; omega) (by rw [ha.1, hm.1]; unfold maxLen; omega)
  have t2 := (List.getElem?_eq_some_iff.1 h2).1
  have hv' : one v' = true ∧ solid v' = true ∧ acells v' = [v'] := by
    rcases o1 with ⟨_, rfl⟩ | ⟨_, b, ver, rfl, _⟩ <;> exact ⟨rfl, rfl, rfl⟩
  have k2 : H'[2]? = some ⟨40, 3, 0, false, [v, .sc (.string (foundS px (firstD used p))), mkL 4 (p.query.args.map TermT.c)], .cells⟩ := by rw [k1 2 t2 n2]; exact h2
  refine ⟨v, v', H', h2, h1, e1, k2, hv'.1, hv'.2.1, hv'.2.2, v', ws ++ mw, ?_, ha.app hm, by rw [s1]; exact n0, by rw [s1]; exact n1, by rw [s1]; exact n2, ?_, ?_, c0, ?_, hc0⟩
  · rcases o1 with ⟨q1, q2⟩ | ⟨q1, b, ver, q2, q3⟩
    · exact .inl ⟨q1, q2⟩
    · refine .inr ⟨q1, b, ver, q2, ?_⟩
      rw [List.getElem?_set_ne]
      · exact q3
      · rintro rfl
        rw [← s1, q2] at n2
        exact n2 rfl
  · rw [List.getElem?_set_self (by omega)]
  · rw [List.getElem?_set_ne (by omega), k1 1 (by omega) n1]
    exact h1
  · rw [List.getElem?_set_ne (by omega), k1 0 (by omega) n0]
    exact h0
set_option maxHeartbeats 4000000 in
theorem rew_inner {p : ProgT} {px : ByteArray} {op : List ByteArray} {used : List D2} (S : RewS p px op used) {d : D2} {i : Nat} (hd : d ∈ used) (hi : i < 1000) {k : Nat} (hk : 1000600 ≤ k) {jump : Code → Code → St → Option (AX × St)} {s0 : St} {R : Option (AX × St)} {H : List Blk} {rs : List RuleT} (hne : rs ≠ []) (hrl : rs.length ≤ 1 + 11 * (i * 1000))
    (hH : RewH p px op used H rs)
    (h : aloop Tryz.prog (acall cf.mode false (arun Tryz.prog cf k)) (acall cf.mode true (arun Tryz.prog cf k)) jump (pureOf cf.mode) (cf.dyn 15) (cf.keep 15) 114 k (loopAt Tryz.f15 13) s0 = R)
    (h0 : pr [2, 4, 6, 8, 10, 63, 64, 65, 70, 71, 72] s0 = ⟨[(2, .ro p.c), (4, .ptr 0 0 0), (6, .ptr 1 0 0), (8, .ptr 2 0 0), (10, .ro d.c), (63, mkL 2 (dRows used)), (64, .sc (.int .i64 used.length)), (65, .sc (.int .i64 (i : Nat))), (70, mkL 4 (p.rules.map RuleT.c)), (71, .sc (.int .i64 p.rules.length)), (72, .sc (.int .i64 0))], H⟩) :
    ∃ H', RewH p px op used H' (rs ++ dmR px op used p d) ∧ R = some (.exit 2, ⟨[(2, .ro p.c), (4, .ptr 0 0 0), (6, .ptr 1 0 0), (8, .ptr 2 0 0), (10, .ro d.c), (63, mkL 2 (dRows used)), (64, .sc (.int .i64 used.length)), (65, .sc (.int .i64 (i : Nat))), (70, mkL 4 (p.rules.map RuleT.c)), (71, .sc (.int .i64 p.rules.length)), (72, .sc (.int .i64 p.rules.length)), (73, .sc (.bool false))], H'⟩) := by
  have hw := wraps (n := p.rules.length) (by have := S.rules; omega)
  have e1 := aloop_inv2 h [2, 4, 6, 8, 10, 63, 64, 65, 70, 71, 72] (fun j s => ∃ H', RewH p px op used H' (rs ++ ((p.rules.take j).filter fun x => decide (x.head.p = d.1)).flatMap fun x => rulesT px op used x d) ∧ (rs ++ ((p.rules.take j).filter fun x => decide (x.head.p = d.1)).flatMap fun x => rulesT px op used x d).length ≤ 1 + 11 * (i * 1000 + j) ∧ s = ⟨[(2, .ro p.c), (4, .ptr 0 0 0), (6, .ptr 1 0 0), (8, .ptr 2 0 0), (10, .ro d.c), (63, mkL 2 (dRows used)), (64, .sc (.int .i64 used.length)), (65, .sc (.int .i64 (i : Nat))), (70, mkL 4 (p.rules.map RuleT.c)), (71, .sc (.int .i64 p.rules.length)), (72, .sc (.int .i64 (j : Nat)))], H'⟩) p.rules.length (by have := S.rules; omega) rfl ⟨H, by simpa using hH, by simpa using hrl, h0⟩ (fun j hj s ⟨H', hR, hlen, hs⟩ => by
      subst hs
      obtain ⟨x, hx⟩ : ∃ x, x = p.rules[j] := ⟨_, rfl⟩
      have xj : p.rules[j]? = some x := by rw [hx]; exact List.getElem?_eq_getElem hj
      have hxm := List.mem_of_getElem? xj
      have htk : p.rules.take (j + 1) = p.rules.take j ++ [x] := by rw [hx]; exact List.take_succ_eq_append_getElem hj
      rw [htk, List.filter_append, List.flatMap_append, ← List.append_assoc]
      have hne2 : rs ++ ((p.rules.take j).filter fun x => decide (x.head.p = d.1)).flatMap (fun x => rulesT px op used x d) ≠ [] := by
        intro e
        exact hne (List.append_eq_nil_iff.1 e).1
      generalize rs ++ ((p.rules.take j).filter fun x => decide (x.head.p = d.1)).flatMap (fun x => rulesT px op used x d) = rs2 at *
      by_cases hp : x.head.p = d.1
      · have hf : ([x].filter fun x => decide (x.head.p = d.1)).flatMap (fun x => rulesT px op used x d) = rulesT px op used x d := by simp [hp]
        rw [hf]
        obtain ⟨hrl1, hrl2⟩ := rulesT_len (px := px) (op := op) (used := used) (d := d) (S.body x hxm)
        obtain ⟨v, v', H2, g2, g1, e2, q2, o1, o2, o3, hR2⟩ := hR.more (AllR.of (rulesT px op used x d)) hne2 hrl2 (by have := S.rules; omega)
        have hrun := rules_run px op used x d S.pxS S.opS S.usedS S.ds (S.ds d hd) (S.head x hxm) (S.body x hxm) (S.args x hxm) k (by omega)
        simp only [RuleT.c, D2.c] at hrun
        rw [hp] at hrun
        refine ⟨_, by
          simp only [R0, RC, zipEnv, Nat.reduceLT, Nat.reduceAdd, Nat.reduceEqDiff, Nat.reduceLeDiff, reduceCtorEq, ↓reduceIte, ares, aresult, pr, Int.reduceEq, Int.reduceLT, Int.reduceLE, Nat.reduceSub, Nat.reduceMul, aFieldAddr, aField, aLoad, aStore, aExtract, aBox, aint, rdVar, rdCells, Value.oneCell', splice, Int.reduceNeg, zvar1, chunks, depth, some_map, Nat.reduceBEq, cf_dyn, okU, Tryz.f15, rf15, loopAt, findLoop, firstId, Option.getD_some, Option.some.injEq, Nat.reduceEqDiff, if_false, if_true, RuleT.c, D2.c, hj, xj, hw j hj, hp, g1, g2, hrun, e2, q2, o1, o2, o3], _, hR2, ?_, rfl⟩
        rw [List.length_append]
        omega
      · have hf : ([x].filter fun x => decide (x.head.p = d.1)).flatMap (fun x => rulesT px op used x d) = [] := by simp [hp]
        rw [hf, List.append_nil]
        refine ⟨_, by
          simp only [R0, RC, zipEnv, Nat.reduceLT, Nat.reduceAdd, Nat.reduceEqDiff, Nat.reduceLeDiff, reduceCtorEq, ↓reduceIte, ares, aresult, pr, Int.reduceEq, Int.reduceLT, Int.reduceLE, Nat.reduceSub, Nat.reduceMul, aFieldAddr, aField, aLoad, aStore, aExtract, aBox, aint, rdVar, rdCells, Value.oneCell', splice, Int.reduceNeg, zvar1, chunks, depth, some_map, Nat.reduceBEq, cf_dyn, okU, Tryz.f15, rf15, loopAt, findLoop, firstId, Option.getD_some, Option.some.injEq, Nat.reduceEqDiff, if_false, if_true, RuleT.c, D2.c, hj, xj, hw j hj, hp], _, hR, by omega, rfl⟩) (fun s ⟨H', hR, hlen, hs⟩ => by
      subst hs
      simp only [R0, RC, zipEnv, Nat.reduceLT, Nat.reduceAdd, Nat.reduceEqDiff, Nat.reduceLeDiff, reduceCtorEq, ↓reduceIte, ares, aresult, pr, Int.reduceEq, Int.reduceLT, Int.reduceLE, Nat.reduceSub, Nat.reduceMul, aFieldAddr, aField, aLoad, aStore, aExtract, aBox, aint, rdVar, rdCells, Value.oneCell', splice, Int.reduceNeg, zvar1, chunks, depth, some_map, Nat.reduceBEq, cf_dyn, okU, Tryz.f15, rf15, loopAt, findLoop, firstId, Option.getD_some, Option.some.injEq, Nat.reduceEqDiff, if_false, if_true])
  obtain ⟨s, ⟨H', hR, hlen, hs⟩, e⟩ := e1
  subst hs
  rw [List.take_length] at hR
  refine ⟨H', hR, ?_⟩
  rw [e]
  simp only [R0, RC, zipEnv, Nat.reduceLT, Nat.reduceAdd, Nat.reduceEqDiff, Nat.reduceLeDiff, reduceCtorEq, ↓reduceIte, ares, aresult, pr, Int.reduceEq, Int.reduceLT, Int.reduceLE, Nat.reduceSub, Nat.reduceMul, aFieldAddr, aField, aLoad, aStore, aExtract, aBox, aint, rdVar, rdCells, Value.oneCell', splice, Int.reduceNeg, zvar1, chunks, depth, some_map, Nat.reduceBEq, cf_dyn, okU, Tryz.f15, rf15, loopAt, findLoop, firstId, Option.getD_some, Option.some.injEq, Nat.reduceEqDiff, if_false, if_true]
end Go.Proofs.YtpgipdajinkdgaaGreatA

namespace Go.Proofs.YtpgipdajinkdgaaGreatA
open Go Go.RowKit
set_option linter.all false
set_option linter.unusedSectionVars false
set_option linter.constructorNameAsVariable false
set_option linter.unusedVariables false
set_option linter.unusedSimpArgs false
theorem flat_bound {px : ByteArray} {op : List ByteArray} {used : List D2} {p : ProgT} (hb : ∀ r ∈ p.rules, r.body.length ≤ 10) (hR : p.rules.length ≤ 1000) : ∀ (l : List D2), (l.flatMap (dmR px op used p)).length ≤ l.length * 11000
  | [] => by simp
  | d :: l => by
    have := flat_bound (px := px) (op := op) (used := used) hb hR l
    have key : ∀ (rs : List RuleT), (∀ r ∈ rs, r.body.length ≤ 10) → (rs.flatMap fun x => rulesT px op used x d).length ≤ rs.length * 11 := by
      intro rs
      induction rs with
      | nil => intro _; simp
      | cons r rs ih =>
        intro h
        have h1 := ih fun x hx => h x (List.mem_cons_of_mem _ hx)
        have h2 := (rulesT_len (px := px) (op := op) (used := used) (d := d) (h r (List.mem_cons_self ..))).1
        rw [List.flatMap_cons, List.length_append, List.length_cons, Nat.add_mul]
        omega
    have h2 : (dmR px op used p d).length ≤ 11000 := by
      unfold dmR
      have := key (p.rules.filter fun x => decide (x.head.p = d.1)) (fun r hr => hb r (List.mem_filter.1 hr).1)
      have h3 := List.length_filter_le (fun x : RuleT => decide (x.head.p = d.1)) p.rules
      omega
    rw [List.flatMap_cons, List.length_append, List.length_cons, Nat.add_mul, Nat.one_mul]
    omega
set_option maxHeartbeats 4000000 in
theorem rew_outer {p : ProgT} {px : ByteArray} {op : List ByteArray} {used : List D2} (S : RewS p px op used) {k : Nat} (hk : 1000600 ≤ k) {jump : Code → Code → St → Option (AX × St)} {s0 : St} {R : Option (AX × St)} {H : List Blk}
    (hH : RewH p px op used H [ask0 px used p])
    (h : aloop Tryz.prog (acall cf.mode false (arun Tryz.prog cf k)) (acall cf.mode true (arun Tryz.prog cf k)) jump (pureOf cf.mode) (cf.dyn 15) (cf.keep 15) 114 k (loopAt Tryz.f15 10) s0 = R)
    (h0 : pr [2, 4, 6, 8, 63, 64, 65] s0 = ⟨[(2, .ro p.c), (4, .ptr 0 0 0), (6, .ptr 1 0 0), (8, .ptr 2 0 0), (63, mkL 2 (dRows used)), (64, .sc (.int .i64 used.length)), (65, .sc (.int .i64 0))], H⟩) :
    ∃ H', RewH p px op used H' (ask0 px used p :: used.flatMap (dmR px op used p)) ∧ R = some (.exit 0, ⟨[(2, .ro p.c), (4, .ptr 0 0 0), (6, .ptr 1 0 0), (8, .ptr 2 0 0), (63, mkL 2 (dRows used)), (64, .sc (.int .i64 used.length)), (65, .sc (.int .i64 used.length)), (66, .sc (.bool false))], H'⟩) := by
  have hw := wraps (n := used.length) (by have := S.usedS; omega)
  have e1 := aloop_inv2 h [2, 4, 6, 8, 63, 64, 65] (fun j s => ∃ H', RewH p px op used H' (ask0 px used p :: (used.take j).flatMap (dmR px op used p)) ∧ s = ⟨[(2, .ro p.c), (4, .ptr 0 0 0), (6, .ptr 1 0 0), (8, .ptr 2 0 0), (63, mkL 2 (dRows used)), (64, .sc (.int .i64 used.length)), (65, .sc (.int .i64 (j : Nat)))], H'⟩) used.length (by have := S.usedS; omega) rfl ⟨H, by simpa using hH, h0⟩ (fun j hj s ⟨H', hR, hs⟩ => by
      subst hs
      obtain ⟨d, hd⟩ : ∃ d, d = used[j] := ⟨_, rfl⟩
      have xj : used[j]? = some d := by rw [hd]; exact List.getElem?_eq_getElem hj
      have hdm := List.mem_of_getElem? xj
      have htk : used.take (j + 1) = used.take j ++ [d] := by rw [hd]; exact List.take_succ_eq_append_getElem hj
      have hrow : (dRows used)[j]? = some d.c := by unfold dRows; rw [List.getElem?_map, xj]; rfl
      have hlen : (dRows used).length = used.length := by unfold dRows; simp
      have hfb := flat_bound (px := px) (op := op) (used := used) S.body S.rules (used.take j)
      rw [List.length_take] at hfb
      have hin := fun (s0 : St) (R : Option (AX × St)) (jump : Code → Code → St → Option (AX × St)) => rew_inner (p := p) (px := px) (op := op) (used := used) S (d := d) (i := j) hdm (by have := S.usedS; omega) (k := k) hk (jump := jump) (s0 := s0) (R := R) (H := H') (rs := ask0 px used p :: (used.take j).flatMap (dmR px op used p)) (by simp) (by rw [List.length_cons]; omega) hR
      simp only [D2.c] at hrow
      simp only [R0, RC, zipEnv, Nat.reduceLT, Nat.reduceAdd, Nat.reduceEqDiff, Nat.reduceLeDiff, reduceCtorEq, ↓reduceIte, ares, aresult, pr, Int.reduceEq, Int.reduceLT, Int.reduceLE, Nat.reduceSub, Nat.reduceMul, aFieldAddr, aField, aLoad, aStore, aExtract, aBox, aint, rdVar, rdCells, Value.oneCell', splice, Int.reduceNeg, zvar1, chunks, depth, some_map, Nat.reduceBEq, cf_dyn, okU, Tryz.f15, rf15, loopAt, findLoop, firstId, Option.getD_some, Option.some.injEq, Nat.reduceEqDiff, if_false, if_true, D2.c, ProgT.c, hj, hrow, hlen, hw j hj]
      generalize hB : aloop _ _ _ _ _ _ _ _ _ _ _ = B
      obtain ⟨H2, hR2, eB⟩ := hin _ _ _ hB (by simp only [R0, RC, zipEnv, Nat.reduceLT, Nat.reduceAdd, Nat.reduceEqDiff, Nat.reduceLeDiff, reduceCtorEq, ↓reduceIte, ares, aresult, pr, Int.reduceEq, Int.reduceLT, Int.reduceLE, Nat.reduceSub, Nat.reduceMul, aFieldAddr, aField, aLoad, aStore, aExtract, aBox, aint, rdVar, rdCells, Value.oneCell', splice, Int.reduceNeg, zvar1, chunks, depth, some_map, Nat.reduceBEq, cf_dyn, okU, Tryz.f15, rf15, D2.c, ProgT.c]; try rfl)
      rw [eB]
      refine ⟨_, by simp only [R0, RC, zipEnv, Nat.reduceLT, Nat.reduceAdd, Nat.reduceEqDiff, Nat.reduceLeDiff, reduceCtorEq, ↓reduceIte, ares, aresult, pr, Int.reduceEq, Int.reduceLT, Int.reduceLE, Nat.reduceSub, Nat.reduceMul, aFieldAddr, aField, aLoad, aStore, aExtract, aBox, aint, rdVar, rdCells, Value.oneCell', splice, Int.reduceNeg, zvar1, chunks, depth, some_map, Nat.reduceBEq, cf_dyn, okU, Tryz.f15, rf15, D2.c, ProgT.c, hw j hj], H2, ?_, rfl⟩
      rw [htk, List.flatMap_append]
      simpa using hR2) (fun s ⟨H', hR, hs⟩ => by
      subst hs
      simp only [R0, RC, zipEnv, Nat.reduceLT, Nat.reduceAdd, Nat.reduceEqDiff, Nat.reduceLeDiff, reduceCtorEq, ↓reduceIte, ares, aresult, pr, Int.reduceEq, Int.reduceLT, Int.reduceLE, Nat.reduceSub, Nat.reduceMul, aFieldAddr, aField, aLoad, aStore, aExtract, aBox, aint, rdVar, rdCells, Value.oneCell', splice, Int.reduceNeg, zvar1, chunks, depth, some_map, Nat.reduceBEq, cf_dyn, okU, Tryz.f15, rf15, loopAt, findLoop, firstId, Option.getD_some, Option.some.injEq, Nat.reduceEqDiff, if_false, if_true])
  obtain ⟨s, ⟨H', hR, hs⟩, e⟩ := e1
  subst hs
  rw [List.take_length] at hR
  refine ⟨H', hR, ?_⟩
  rw [e]
  simp only [R0, RC, zipEnv, Nat.reduceLT, Nat.reduceAdd, Nat.reduceEqDiff, Nat.reduceLeDiff, reduceCtorEq, ↓reduceIte, ares, aresult, pr, Int.reduceEq, Int.reduceLT, Int.reduceLE, Nat.reduceSub, Nat.reduceMul, aFieldAddr, aField, aLoad, aStore, aExtract, aBox, aint, rdVar, rdCells, Value.oneCell', splice, Int.reduceNeg, zvar1, chunks, depth, some_map, Nat.reduceBEq, cf_dyn, okU, Tryz.f15, rf15, loopAt, findLoop, firstId, Option.getD_some, Option.some.injEq, Nat.reduceEqDiff, if_false, if_true]
set_option maxHeartbeats 4000000 in
theorem rew_base {p : ProgT} {px : ByteArray} {op : List ByteArray} {used : List D2} (S : RewS p px op used) {k : Nat} (hk : 1000600 ≤ k) {jump : Code → Code → St → Option (AX × St)} {s0 : St} {R : Option (AX × St)} {H : List Blk} {rs : List RuleT} (hne : rs ≠ []) (hrl : rs.length ≤ 90000000)
    (hH : RewH p px op used H rs)
    (h : aloop Tryz.prog (acall cf.mode false (arun Tryz.prog cf k)) (acall cf.mode true (arun Tryz.prog cf k)) jump (pureOf cf.mode) (cf.dyn 15) (cf.keep 15) 114 k (loopAt Tryz.f15 21) s0 = R)
    (h0 : pr [4, 8, 13, 94, 95, 96] s0 = ⟨[(4, .ptr 0 0 0), (8, .ptr 2 0 0), (13, .fn 31 [.ro p.c]), (94, mkL 4 (p.rules.map RuleT.c)), (95, .sc (.int .i64 p.rules.length)), (96, .sc (.int .i64 0))], H⟩) :
    ∃ H', RewH p px op used H' (rs ++ baseR p) ∧ R = some (.exit 4, ⟨[(4, .ptr 0 0 0), (8, .ptr 2 0 0), (13, .fn 31 [.ro p.c]), (94, mkL 4 (p.rules.map RuleT.c)), (95, .sc (.int .i64 p.rules.length)), (96, .sc (.int .i64 p.rules.length)), (97, .sc (.bool false))], H'⟩) := by
  have hw := wraps (n := p.rules.length) (by have := S.rules; omega)
  have e1 := aloop_inv2 h [4, 8, 13, 94, 95, 96] (fun j s => ∃ H', RewH p px op used H' (rs ++ (p.rules.take j).filter fun x => !derB p x.head.p) ∧ s = ⟨[(4, .ptr 0 0 0), (8, .ptr 2 0 0), (13, .fn 31 [.ro p.c]), (94, mkL 4 (p.rules.map RuleT.c)), (95, .sc (.int .i64 p.rules.length)), (96, .sc (.int .i64 (j : Nat)))], H'⟩) p.rules.length (by have := S.rules; omega) rfl ⟨H, by simpa using hH, h0⟩ (fun j hj s ⟨H', hR, hs⟩ => by
      subst hs
      obtain ⟨x, hx⟩ : ∃ x, x = p.rules[j] := ⟨_, rfl⟩
      have xj : p.rules[j]? = some x := by rw [hx]; exact List.getElem?_eq_getElem hj
      have htk : p.rules.take (j + 1) = p.rules.take j ++ [x] := by rw [hx]; exact List.take_succ_eq_append_getElem hj
      have hfl := List.length_filter_le (fun x : RuleT => !derB p x.head.p) (p.rules.take j)
      rw [List.length_take] at hfl
      rw [htk, List.filter_append, ← List.append_assoc]
      have hne2 : rs ++ (p.rules.take j).filter (fun x => !derB p x.head.p) ≠ [] := by
        intro e
        exact hne (List.append_eq_nil_iff.1 e).1
      have hrl2 : (rs ++ (p.rules.take j).filter (fun x => !derB p x.head.p)).length ≤ 99000000 := by
        rw [List.length_append]
        have := S.rules
        omega
      generalize rs ++ (p.rules.take j).filter (fun x => !derB p x.head.p) = rs2 at *
      have hd := der_run p x.head.p (by have := S.rules; omega) k (by omega)
      simp only [ProgT.c] at hd
      cases hdb : derB p x.head.p with
      | true =>
        rw [hdb] at hd
        have hf : [x].filter (fun x => !derB p x.head.p) = [] := by simp [hdb]
        rw [hf, List.append_nil]
        exact ⟨_, by
          simp only [R0, RC, zipEnv, Nat.reduceLT, Nat.reduceAdd, Nat.reduceEqDiff, Nat.reduceLeDiff, reduceCtorEq, ↓reduceIte, ares, aresult, pr, Int.reduceEq, Int.reduceLT, Int.reduceLE, Nat.reduceSub, Nat.reduceMul, aFieldAddr, aField, aLoad, aStore, aExtract, aBox, aint, rdVar, rdCells, Value.oneCell', splice, Int.reduceNeg, zvar1, chunks, depth, some_map, Nat.reduceBEq, cf_dyn, okU, Tryz.f15, rf15, loopAt, findLoop, firstId, Option.getD_some, Option.some.injEq, Nat.reduceEqDiff, if_false, if_true, RuleT.c, ProgT.c, hj, xj, hw j hj, hd], _, hR, rfl⟩
      | false =>
        rw [hdb] at hd
        have hf : [x].filter (fun x => !derB p x.head.p) = [x] := by simp [hdb]
        rw [hf]
        obtain ⟨v, v', H2, g2, g1, e2, q2, o1, o2, o3, hR2⟩ := hR.more (AllR.of [x]) hne2 (by simp) (by rw [List.length_singleton]; omega)
        simp only [List.map_cons, List.map_nil, RuleT.c] at e2
        exact ⟨_, by
          simp only [R0, RC, zipEnv, Nat.reduceLT, Nat.reduceAdd, Nat.reduceEqDiff, Nat.reduceLeDiff, reduceCtorEq, ↓reduceIte, ares, aresult, pr, Int.reduceEq, Int.reduceLT, Int.reduceLE, Nat.reduceSub, Nat.reduceMul, aFieldAddr, aField, aLoad, aStore, aExtract, aBox, aint, rdVar, rdCells, Value.oneCell', splice, Int.reduceNeg, zvar1, chunks, depth, some_map, Nat.reduceBEq, cf_dyn, okU, Tryz.f15, rf15, loopAt, findLoop, firstId, Option.getD_some, Option.some.injEq, Nat.reduceEqDiff, if_false, if_true, RuleT.c, ProgT.c, hj, xj, hw j hj, hd, g1, g2, e2, q2, o1, o2, o3], _, hR2, rfl⟩) (fun s ⟨H', hR, hs⟩ => by
      subst hs
      simp only [R0, RC, zipEnv, Nat.reduceLT, Nat.reduceAdd, Nat.reduceEqDiff, Nat.reduceLeDiff, reduceCtorEq, ↓reduceIte, ares, aresult, pr, Int.reduceEq, Int.reduceLT, Int.reduceLE, Nat.reduceSub, Nat.reduceMul, aFieldAddr, aField, aLoad, aStore, aExtract, aBox, aint, rdVar, rdCells, Value.oneCell', splice, Int.reduceNeg, zvar1, chunks, depth, some_map, Nat.reduceBEq, cf_dyn, okU, Tryz.f15, rf15, loopAt, findLoop, firstId, Option.getD_some, Option.some.injEq, Nat.reduceEqDiff, if_false, if_true])
  obtain ⟨s, ⟨H', hR, hs⟩, e⟩ := e1
  subst hs
  rw [List.take_length] at hR
  refine ⟨H', hR, ?_⟩
  rw [e]
  simp only [R0, RC, zipEnv, Nat.reduceLT, Nat.reduceAdd, Nat.reduceEqDiff, Nat.reduceLeDiff, reduceCtorEq, ↓reduceIte, ares, aresult, pr, Int.reduceEq, Int.reduceLT, Int.reduceLE, Nat.reduceSub, Nat.reduceMul, aFieldAddr, aField, aLoad, aStore, aExtract, aBox, aint, rdVar, rdCells, Value.oneCell', splice, Int.reduceNeg, zvar1, chunks, depth, some_map, Nat.reduceBEq, cf_dyn, okU, Tryz.f15, rf15, loopAt, findLoop, firstId, Option.getD_some, Option.some.injEq, Nat.reduceEqDiff, if_false, if_true]
end Go.Proofs.YtpgipdajinkdgaaGreatA
