/- adorn.Demands: the loop over a body. -/
import Derived.Test.YtpgipdajinkdgaaGreatN16
import Derived.Test.YtpgipdajinkdgaaGreatN19
import Derived.Test.YtpgipdajinkdgaaGreatE2
namespace Go.Proofs.YtpgipdajinkdgaaGreatA
open Go Go.RowKit
set_option linter.all false
set_option linter.unusedSectionVars false
set_option linter.constructorNameAsVariable false
set_option linter.unusedVariables false
set_option linter.unusedSimpArgs false
def dRows (l : List D2) : List (List AV) := l.map D2.c
theorem dRows_row {l : List D2} : ∀ r ∈ dRows l, r.length = 2 := fun r hr => by
  obtain ⟨_, _, rfl⟩ := List.mem_map.1 hr
  rfl
theorem dRows_stay {l : List D2} : ∀ r ∈ dRows l, ∀ x ∈ r, Stays x := fun r hr x hx => by
  obtain ⟨d, _, rfl⟩ := List.mem_map.1 hr
  simp only [D2.c, List.mem_cons, List.not_mem_nil, or_false] at hx
  rcases hx with rfl | rfl <;> exact stays_str
def litD (x : LitT) (have_ : List ByteArray) : D2 := (x.a.p, patS have_ x.a.args)
def asksB (op : List ByteArray) (out : List D2) (x : LitT) (d : D2) : Bool := decide (x.k = 1) && inS op d.1 && !(out.any fun y => decide (d = y))
def litS (op : List ByteArray) (s : List D2 × List ByteArray) (x : LitT) : List D2 × List ByteArray :=
  (if asksB op s.1 x (litD x s.2) = true then s.1 ++ [litD x s.2] else s.1, bindsT x s.2)
theorem litS_len {op : List ByteArray} {m : Nat} : ∀ (l : List LitT) (s : List D2 × List ByteArray), (∀ x ∈ l, x.a.args.length ≤ m) → (l.foldl (litS op) s).1.length ≤ s.1.length + l.length ∧ (l.foldl (litS op) s).2.length ≤ s.2.length + l.length * (m + 3)
  | [], s, _ => by simp
  | x :: l, s, h => by
    obtain ⟨h1, h2⟩ := litS_len (op := op) (m := m) l (litS op s x) fun y hy => h y (by simp [hy])
    have h3 := bindsT_len x s.2
    have h4 := h x (by simp)
    rw [List.foldl_cons]
    have e1 : (litS op s x).1.length ≤ s.1.length + 1 := by
      unfold litS
      simp only
      split <;> simp
    have e2 : (litS op s x).2 = bindsT x s.2 := rfl
    rw [e2] at h2
    have e3 : (x :: l).length * (m + 3) = l.length * (m + 3) + (m + 3) := by rw [List.length_cons, Nat.add_mul, Nat.one_mul]
    rw [e3, List.length_cons]
    exact ⟨by omega, by omega⟩
theorem set_last {α : Type} {l : List α} {a b : α} : (l ++ [a]).set l.length b = l ++ [b] := by simp
def demH (O : List D2) (tl : List Blk) : List Blk := accB 28 2 (dRows O) ++ tl
theorem demH_app {O : List D2} {tl : List Blk} {b : Blk} : demH O tl ++ [b] = demH O (tl ++ [b]) := by
  unfold demH
  rw [List.append_assoc]
theorem demH_at {O : List D2} {tl : List Blk} : OutAt 28 2 (demH O tl) (accV 0 2 (dRows O)) (dRows O) := by
  unfold demH accV accB
  by_cases h : dRows O = []
  · exact .inl ⟨h, if_pos h⟩
  · rw [if_neg h, if_neg h]
    exact .inr ⟨h, 0, _, rfl, rfl⟩
theorem rb_demH {O : List D2} {tl : List Blk} {k : Nat} : rb (demH O tl) (k + 2) (accV 0 2 (dRows O)) = some (mkL 2 (dRows O)) := rb_out demH_at dRows_row dRows_stay
theorem demH_more {O : List D2} {tl : List Blk} {d : D2} (h0 : O ≠ []) (hl : O.length ≤ 100000) : outH (demH O tl) (aappend Tryz.prog (demH O tl) 62 (accV 0 2 (dRows O)) (mkL 2 [[.sc (.string d.1), .sc (.string d.2)]])) = some (accV 0 2 (dRows (O ++ [d])), demH (O ++ [d]) tl) := by
  have hd : dRows O ≠ [] := by unfold dRows; simpa using h0
  have hd2 : dRows (O ++ [d]) ≠ [] := by unfold dRows; simp
  have e2 : dRows (O ++ [d]) = dRows O ++ [[.sc (.string d.1), .sc (.string d.2)]] := by unfold dRows; simp [D2.c]
  have hpos : 0 < (dRows O).length := List.length_pos_iff.2 hd
  have hle : (dRows O).length = O.length := by unfold dRows; simp
  have hv : accV 0 2 (dRows O) = .own 0 0 (dRows O).length 2 ((dRows O).length - 1) := by unfold accV; rw [if_neg hd]
  have hv2 : accV 0 2 (dRows (O ++ [d])) = .own 0 0 ((dRows O).length + 1) 2 ((dRows O).length - 1 + 1) := by
    unfold accV; rw [if_neg hd2, e2, List.length_append, List.length_singleton, Nat.add_sub_cancel, Nat.sub_add_cancel hpos]
  have hH2 : demH (O ++ [d]) tl = ⟨28, 2, (dRows O).length - 1 + 1, true, (dRows O).flatten ++ [[.sc (.string d.1), .sc (.string d.2)]].flatten, .cells⟩ :: tl := by
    unfold demH accB
    rw [if_neg hd2, e2, List.length_append, List.length_singleton, Nat.add_sub_cancel, Nat.sub_add_cancel hpos, List.flatten_append]
    rfl
  have hH : demH O tl = ⟨28, 2, (dRows O).length - 1, true, (dRows O).flatten ++ [], .cells⟩ :: tl := by
    unfold demH accB
    rw [if_neg hd, List.append_nil]
    rfl
  rw [hv, hv2, hH2, hH, app_oj (more := [[.sc (.string d.1), .sc (.string d.2)]]) ro62 rfl dRows_row (by simp) (fun r hr => by rw [List.mem_singleton] at hr; subst hr; rfl) (by simp only [List.length_singleton]; omega) (by simp only [List.length_singleton]; unfold maxLen; omega)]
  rfl
set_option maxHeartbeats 1000000 in
theorem dem_loop {k : Nat} {op : List ByteArray} {r : RuleT} {p : ProgT} {n i : Nat} (hop : op.length ≤ 1000) (hlen : r.body.length ≤ 6) (hargs : ∀ x ∈ r.body, x.a.args.length ≤ 10) (hk : 1000300 ≤ k) {jump : Code → Code → St → Option (AX × St)} {s0 : St} {R : Option (AX × St)} {out : List D2} {hv : List ByteArray} {tl : List Blk}
    (h : aloop Tryz.prog (acall cf.mode false (arun Tryz.prog cf k)) (acall cf.mode true (arun Tryz.prog cf k)) jump (pureOf cf.mode) (cf.dyn 27) (cf.keep 27) 98 k (loopAt Tryz.f27 14) s0 = R)
    (h0 : pr [1, 3, 4, 5, 8, 35, 36, 37, 59, 60, 61] s0 = ⟨[(1, .ro p.c), (3, mkL 1 (sRows op)), (4, accV 0 2 (dRows out)), (5, .sc (.int .i64 (n : Nat))), (8, mkL 1 (sRows hv)), (35, mkL 4 (p.rules.map RuleT.c)), (36, .sc (.int .i64 p.rules.length)), (37, .sc (.int .i64 (i : Nat))), (59, mkL 17 (r.body.map LitT.c)), (60, .sc (.int .i64 r.body.length)), (61, .sc (.int .i64 0))], demH out tl⟩) (hne : out ≠ []) (hO : out.length ≤ 900) (hH : hv.length ≤ 800) :
    ∃ tl', R = some (.exit 4, ⟨[(1, .ro p.c), (3, mkL 1 (sRows op)), (4, accV 0 2 (dRows (r.body.foldl (litS op) (out, hv)).1)), (5, .sc (.int .i64 (n : Nat))), (8, mkL 1 (sRows (r.body.foldl (litS op) (out, hv)).2)), (35, mkL 4 (p.rules.map RuleT.c)), (36, .sc (.int .i64 p.rules.length)), (37, .sc (.int .i64 (i : Nat))), (59, mkL 17 (r.body.map LitT.c)), (60, .sc (.int .i64 r.body.length)), (61, .sc (.int .i64 r.body.length)), (62, .sc (.bool false))], demH (r.body.foldl (litS op) (out, hv)).1 tl'⟩) := by
  have hw := wraps (n := r.body.length) (by omega)
  obtain ⟨s, ⟨tl', hs, _⟩, e⟩ := aloop_inv2 h [1, 3, 4, 5, 8, 35, 36, 37, 59, 60, 61] (fun j s => ∃ tl, s = ⟨[(1, .ro p.c), (3, mkL 1 (sRows op)), (4, accV 0 2 (dRows ((r.body.take j).foldl (litS op) (out, hv)).1)), (5, .sc (.int .i64 (n : Nat))), (8, mkL 1 (sRows ((r.body.take j).foldl (litS op) (out, hv)).2)), (35, mkL 4 (p.rules.map RuleT.c)), (36, .sc (.int .i64 p.rules.length)), (37, .sc (.int .i64 (i : Nat))), (59, mkL 17 (r.body.map LitT.c)), (60, .sc (.int .i64 r.body.length)), (61, .sc (.int .i64 (j : Nat)))], demH ((r.body.take j).foldl (litS op) (out, hv)).1 tl⟩ ∧ ((r.body.take j).foldl (litS op) (out, hv)).1 ≠ []) r.body.length (by omega) rfl ⟨tl, h0, hne⟩ (fun j hj s ⟨tl, hs, hne⟩ => by
      subst hs
      obtain ⟨x, hx⟩ : ∃ x, x = r.body[j] := ⟨_, rfl⟩
      have xj : r.body[j]? = some x := by rw [hx]; exact List.getElem?_eq_getElem hj
      have hxm : x ∈ r.body := by rw [hx]; exact List.getElem_mem hj
      have hxa := hargs x hxm
      have hstep : (r.body.take (j + 1)).foldl (litS op) (out, hv) = litS op ((r.body.take j).foldl (litS op) (out, hv)) x := by
        rw [List.take_succ_eq_append_getElem hj, List.foldl_append, ← hx]
        rfl
      obtain ⟨b1, b2⟩ := litS_len (op := op) (m := 10) (r.body.take j) (out, hv) fun y hy => hargs y (List.mem_of_mem_take hy)
      rw [List.length_take] at b1 b2
      rw [hstep]
      obtain ⟨O, hO1⟩ : ∃ O, O = ((r.body.take j).foldl (litS op) (out, hv)).1 := ⟨_, rfl⟩
      obtain ⟨V, hV1⟩ : ∃ V, V = ((r.body.take j).foldl (litS op) (out, hv)).2 := ⟨_, rfl⟩
      have hp : (r.body.take j).foldl (litS op) (out, hv) = (O, V) := by rw [hO1, hV1]
      rw [hp] at b1 b2 hne ⊢
      simp only at b1 b2 hne
      have hc : sRows V = V.map sC := rfl
      have hpat := pattern_run x.a V (by omega) (by omega) k (by omega)
      have hin := In_run op x.a.p (by omega) k (by omega)
      have hin2 := containsS_run op x.a.p (by omega) k (by omega)
      have hcon := contains_run O (litD x V) (by omega) k (by omega)
      have hbi := binds_run x V (by omega) (by omega) k (by omega)
      have hrb := fun tl b k => demH_app (O := O) (tl := tl) (b := b) ▸ rb_demH (O := O) (tl := tl ++ [b]) (k := k)
      unfold litD at hcon
      simp only at hcon
      have m0 : mkL 1 (sRows V) = mkL 1 (V.map sC) := rfl
      rw [m0] at hbi
      simp only [LitT.c] at hbi
      have m1 : mkL 2 (dRows O) = mkL 2 (O.map D2.c) := rfl
      have m2 : mkL 1 (sRows op) = mkL 1 (op.map sC) := rfl
      have hmo := fun tl b => demH_app (O := O) (tl := tl) (b := b) ▸ demH_more (O := O) (tl := tl ++ [b]) (d := litD x V) hne (by omega)
      unfold litD at hmo
      simp only at hmo
      unfold litS
      by_cases hk1 : x.k = 1
      · rw [hk1] at hbi
        cases hin1 : inS op x.a.p with
        | false =>
          rw [hin1] at hin hin2
          rw [if_neg (by unfold asksB litD; simp [hin1])]
          refine ⟨_, by
            simp only [R0, RC, zipEnv, Nat.reduceLT, Nat.reduceAdd, Nat.reduceEqDiff, Nat.reduceLeDiff, reduceCtorEq, ↓reduceIte, ares, aresult, pr, Int.reduceEq, Int.reduceLT, Int.reduceLE, Nat.reduceSub, Nat.reduceMul, aFieldAddr, aField, aLoad, aStore, aExtract, aBox, aint, rdVar, rdCells, Value.oneCell', splice, Int.reduceNeg, zvar1, chunks, depth, some_map, Nat.reduceBEq, cf_dyn, okU, Tryz.f27, rf27, loopAt, findLoop, firstId, Option.getD_some, Option.some.injEq, Nat.reduceEqDiff, if_false, if_true, LitT.c, hj, xj, hw j hj, m0, m1, m2, hpat, hin2, hbi, hk1, List.getElem?_concat_length, set_last, hrb]
            rfl, tl ++ [?b], by rw [← demH_app], hne⟩
        | true =>
          rw [hin1] at hin hin2
          cases hc1 : O.any (fun y => decide (((x.a.p, patS V x.a.args) : D2) = y)) with
          | true =>
            rw [hc1] at hcon
            rw [if_neg (by unfold asksB litD; simp only [hin1, hc1]; simp)]
            refine ⟨_, by
              simp only [R0, RC, zipEnv, Nat.reduceLT, Nat.reduceAdd, Nat.reduceEqDiff, Nat.reduceLeDiff, reduceCtorEq, ↓reduceIte, ares, aresult, pr, Int.reduceEq, Int.reduceLT, Int.reduceLE, Nat.reduceSub, Nat.reduceMul, aFieldAddr, aField, aLoad, aStore, aExtract, aBox, aint, rdVar, rdCells, Value.oneCell', splice, Int.reduceNeg, zvar1, chunks, depth, some_map, Nat.reduceBEq, cf_dyn, okU, Tryz.f27, rf27, loopAt, findLoop, firstId, Option.getD_some, Option.some.injEq, Nat.reduceEqDiff, if_false, if_true, LitT.c, hj, xj, hw j hj, m0, m1, m2, hpat, hin2, hcon, hbi, hk1, List.getElem?_concat_length, set_last, hrb]
              rfl, tl ++ [?b], by rw [← demH_app], hne⟩
          | false =>
            rw [hc1] at hcon
            rw [if_pos (by unfold asksB litD; simp only [hin1, hc1, hk1]; simp)]
            refine ⟨_, by
              simp only [R0, RC, zipEnv, Nat.reduceLT, Nat.reduceAdd, Nat.reduceEqDiff, Nat.reduceLeDiff, reduceCtorEq, ↓reduceIte, ares, aresult, pr, Int.reduceEq, Int.reduceLT, Int.reduceLE, Nat.reduceSub, Nat.reduceMul, aFieldAddr, aField, aLoad, aStore, aExtract, aBox, aint, rdVar, rdCells, Value.oneCell', splice, Int.reduceNeg, zvar1, chunks, depth, some_map, Nat.reduceBEq, cf_dyn, okU, Tryz.f27, rf27, loopAt, findLoop, firstId, Option.getD_some, Option.some.injEq, Nat.reduceEqDiff, if_false, if_true, LitT.c, hj, xj, hw j hj, m0, m1, m2, hpat, hin2, hcon, hbi, hk1, List.getElem?_concat_length, set_last, hrb, hmo]
              rfl, tl ++ [?b], by unfold litD; rw [← demH_app], by simp⟩
      · rw [if_neg (by unfold asksB; simp [hk1])]
        refine ⟨_, by
          simp only [R0, RC, zipEnv, Nat.reduceLT, Nat.reduceAdd, Nat.reduceEqDiff, Nat.reduceLeDiff, reduceCtorEq, ↓reduceIte, ares, aresult, pr, Int.reduceEq, Int.reduceLT, Int.reduceLE, Nat.reduceSub, Nat.reduceMul, aFieldAddr, aField, aLoad, aStore, aExtract, aBox, aint, rdVar, rdCells, Value.oneCell', splice, Int.reduceNeg, zvar1, chunks, depth, some_map, Nat.reduceBEq, cf_dyn, okU, Tryz.f27, rf27, loopAt, findLoop, firstId, Option.getD_some, Option.some.injEq, Nat.reduceEqDiff, if_false, if_true, LitT.c, hj, xj, hw j hj, m0, m1, m2, hpat, hin2, hbi, hk1, List.getElem?_concat_length, set_last, hrb]
          rfl, tl ++ [?b], by rw [← demH_app], hne⟩) (fun s ⟨tl, hs, hne⟩ => by
      subst hs
      simp only [R0, RC, zipEnv, Nat.reduceLT, Nat.reduceAdd, Nat.reduceEqDiff, Nat.reduceLeDiff, reduceCtorEq, ↓reduceIte, ares, aresult, pr, Int.reduceEq, Int.reduceLT, Int.reduceLE, Nat.reduceSub, Nat.reduceMul, aFieldAddr, aField, aLoad, aStore, aExtract, aBox, aint, rdVar, rdCells, Value.oneCell', splice, Int.reduceNeg, zvar1, chunks, depth, some_map, Nat.reduceBEq, cf_dyn, okU, Tryz.f27, rf27, loopAt, findLoop, firstId, Option.getD_some, Option.some.injEq, Nat.reduceEqDiff, if_false, if_true])
  subst hs
  rw [List.take_length] at e
  refine ⟨tl', ?_⟩
  rw [e]
  simp only [R0, RC, zipEnv, Nat.reduceLT, Nat.reduceAdd, Nat.reduceEqDiff, Nat.reduceLeDiff, reduceCtorEq, ↓reduceIte, ares, aresult, pr, Int.reduceEq, Int.reduceLT, Int.reduceLE, Nat.reduceSub, Nat.reduceMul, aFieldAddr, aField, aLoad, aStore, aExtract, aBox, aint, rdVar, rdCells, Value.oneCell', splice, Int.reduceNeg, zvar1, chunks, depth, some_map, Nat.reduceBEq, cf_dyn, okU, Tryz.f27, rf27, loopAt, findLoop, firstId, Option.getD_some, Option.some.injEq, Nat.reduceEqDiff, if_false, if_true]
end Go.Proofs.YtpgipdajinkdgaaGreatA

namespace Go.Proofs.YtpgipdajinkdgaaGreatA
open Go Go.RowKit
set_option linter.all false
set_option linter.unusedSectionVars false
set_option linter.constructorNameAsVariable false
set_option linter.unusedVariables false
set_option linter.unusedSimpArgs false
def ruleS (op : List ByteArray) (d : D2) (out : List D2) (r : RuleT) : List D2 := if r.head.p = d.1 then (r.body.foldl (litS op) (out, boundT r.head d.2)).1 else out
theorem litF_more {op : List ByteArray} : ∀ (l : List LitT) (s : List D2 × List ByteArray), ∃ more, (l.foldl (litS op) s).1 = s.1 ++ more
  | [], s => ⟨[], by simp⟩
  | x :: l, s => by
    obtain ⟨m, e⟩ := litF_more l (litS op s x)
    rw [List.foldl_cons, e]
    unfold litS
    simp only
    split
    · exact ⟨litD x s.2 :: m, by simp⟩
    · exact ⟨m, rfl⟩
theorem ruleS_more {op : List ByteArray} {d : D2} {out : List D2} {r : RuleT} : ∃ more, ruleS op d out r = out ++ more := by
  unfold ruleS
  split
  · exact litF_more _ _
  · exact ⟨[], by simp⟩
theorem ruleF_more {op : List ByteArray} {d : D2} : ∀ (l : List RuleT) (out : List D2), ∃ more, l.foldl (ruleS op d) out = out ++ more
  | [], out => ⟨[], by simp⟩
  | r :: l, out => by
    obtain ⟨m1, e1⟩ := ruleS_more (op := op) (d := d) (out := out) (r := r)
    obtain ⟨m2, e2⟩ := ruleF_more l (ruleS op d out r)
    rw [List.foldl_cons, e2, e1]
    exact ⟨m1 ++ m2, by simp⟩
theorem at_more {out more : List D2} {n : Nat} {d : D2} (h : out[n]? = some d) : (out ++ more)[n]? = some d := by
  rw [List.getElem?_append_left (List.getElem?_eq_some_iff.1 h).1, h]
theorem boundT_len {a : AtomT} {s : ByteArray} : (boundT a s).length ≤ a.args.length + 3 := by
  unfold boundT
  have h1 := bindsT_len (litG (givB a.args s a.args.length)) []
  have h2 := givB_len a.args s a.args.length
  simp only [litG, List.length_nil] at h1
  unfold litG
  omega
theorem ruleS_len {op : List ByteArray} {d : D2} {out : List D2} {r : RuleT} (h : r.body.length ≤ 6) (ha : ∀ x ∈ r.body, x.a.args.length ≤ 10) : (ruleS op d out r).length ≤ out.length + 6 := by
  unfold ruleS
  split
  · have := (litS_len (op := op) (m := 10) r.body (out, boundT r.head d.2) ha).1
    simp only at this
    omega
  · omega
theorem ruleF_len {op : List ByteArray} {d : D2} : ∀ (l : List RuleT) (out : List D2), (∀ r ∈ l, r.body.length ≤ 6 ∧ ∀ x ∈ r.body, x.a.args.length ≤ 10) → (l.foldl (ruleS op d) out).length ≤ out.length + 6 * l.length
  | [], out, _ => by simp
  | r :: l, out, h => by
    have h1 := ruleS_len (op := op) (d := d) (out := out) (h r (by simp)).1 (h r (by simp)).2
    have h2 := ruleF_len (op := op) (d := d) l (ruleS op d out r) fun x hx => h x (by simp [hx])
    rw [List.foldl_cons, List.length_cons]
    omega
theorem dflat : ∀ {O : List D2} {n : Nat} {d : D2}, O[n]? = some d → (dRows O).flatten[n * 2]? = some (.sc (.string d.1)) ∧ (dRows O).flatten[n * 2 + 1]? = some (.sc (.string d.2))
  | x :: O, 0, d, h => by
    simp only [List.getElem?_cons_zero, Option.some.injEq] at h
    subst h
    exact ⟨rfl, rfl⟩
  | x :: O, n + 1, d, h => by
    rw [List.getElem?_cons_succ] at h
    have := dflat h
    rw [show (n + 1) * 2 = n * 2 + 1 + 1 by omega]
    exact this
set_option maxHeartbeats 1000000 in
theorem dem_rules {k : Nat} {op : List ByteArray} {p : ProgT} {n : Nat} {d : D2} (hop : op.length ≤ 1000) (hR : p.rules.length ≤ 8) (hB : ∀ r ∈ p.rules, r.body.length ≤ 6 ∧ r.head.args.length ≤ 10 ∧ ∀ x ∈ r.body, x.a.args.length ≤ 10) (hk : 1000300 ≤ k) {jump : Code → Code → St → Option (AX × St)} {s0 : St} {R : Option (AX × St)} {out : List D2} {tl : List Blk}
    (h : aloop Tryz.prog (acall cf.mode false (arun Tryz.prog cf k)) (acall cf.mode true (arun Tryz.prog cf k)) jump (pureOf cf.mode) (cf.dyn 27) (cf.keep 27) 98 k (loopAt Tryz.f27 9) s0 = R)
    (h0 : pr [1, 3, 4, 5, 35, 36, 37] s0 = ⟨[(1, .ro p.c), (3, mkL 1 (sRows op)), (4, accV 0 2 (dRows out)), (5, .sc (.int .i64 (n : Nat))), (35, mkL 4 (p.rules.map RuleT.c)), (36, .sc (.int .i64 p.rules.length)), (37, .sc (.int .i64 0))], demH out tl⟩) (hn : out[n]? = some d) (hO : out.length ≤ 780) :
    ∃ tl', R = some (.exit 2, ⟨[(1, .ro p.c), (3, mkL 1 (sRows op)), (4, accV 0 2 (dRows (p.rules.foldl (ruleS op d) out))), (5, .sc (.int .i64 (n : Nat))), (35, mkL 4 (p.rules.map RuleT.c)), (36, .sc (.int .i64 p.rules.length)), (37, .sc (.int .i64 p.rules.length)), (38, .sc (.bool false))], demH (p.rules.foldl (ruleS op d) out) tl'⟩) := by
  have hw := wraps (n := p.rules.length) (by omega)
  obtain ⟨s, ⟨tl', hs⟩, e⟩ := aloop_inv2 h [1, 3, 4, 5, 35, 36, 37] (fun j s => ∃ tl, s = ⟨[(1, .ro p.c), (3, mkL 1 (sRows op)), (4, accV 0 2 (dRows ((p.rules.take j).foldl (ruleS op d) out))), (5, .sc (.int .i64 (n : Nat))), (35, mkL 4 (p.rules.map RuleT.c)), (36, .sc (.int .i64 p.rules.length)), (37, .sc (.int .i64 (j : Nat)))], demH ((p.rules.take j).foldl (ruleS op d) out) tl⟩) p.rules.length (by omega) rfl ⟨tl, h0⟩ (fun j hj s ⟨tl, hs⟩ => by
      subst hs
      obtain ⟨r, hr⟩ : ∃ r, r = p.rules[j] := ⟨_, rfl⟩
      have xj : p.rules[j]? = some r := by rw [hr]; exact List.getElem?_eq_getElem hj
      have hrm : r ∈ p.rules := by rw [hr]; exact List.getElem_mem hj
      obtain ⟨c1, c2, c3⟩ := hB r hrm
      have hstep : (p.rules.take (j + 1)).foldl (ruleS op d) out = ruleS op d ((p.rules.take j).foldl (ruleS op d) out) r := by
        rw [List.take_succ_eq_append_getElem hj, List.foldl_append, ← hr]
        rfl
      have b1 := ruleF_len (op := op) (d := d) (p.rules.take j) out fun r hr => ⟨(hB r (List.mem_of_mem_take hr)).1, (hB r (List.mem_of_mem_take hr)).2.2⟩
      rw [List.length_take] at b1
      obtain ⟨more, hmore⟩ := ruleF_more (op := op) (d := d) (p.rules.take j) out
      have hn' : ((p.rules.take j).foldl (ruleS op d) out)[n]? = some d := by rw [hmore]; exact at_more hn
      rw [hstep]
      generalize (p.rules.take j).foldl (ruleS op d) out = O at *
      have hnl : n < O.length := (List.getElem?_eq_some_iff.1 hn').1
      have hne : O ≠ [] := by intro h; subst h; simp at hnl
      have hd : dRows O ≠ [] := by unfold dRows; simpa using hne
      have hle : (dRows O).length = O.length := by unfold dRows; simp
      have hv : accV 0 2 (dRows O) = .own 0 0 O.length 2 (O.length - 1) := by unfold accV; rw [if_neg hd, hle]
      have hH0 : (demH O tl)[0]? = some ⟨28, 2, O.length - 1, true, (dRows O).flatten, .cells⟩ := by
        unfold demH accB
        rw [if_neg hd, hle]
        rfl
      obtain ⟨f1, f2⟩ := dflat hn'
      unfold ruleS
      by_cases hp : r.head.p = d.1
      · rw [if_pos hp]
        have hbo := bound_run r.head d.2 (by omega) k (by omega)
        simp only [AtomT.c] at hbo
        rw [hp] at hbo
        simp only [R0, RC, zipEnv, Nat.reduceLT, Nat.reduceAdd, Nat.reduceEqDiff, Nat.reduceLeDiff, reduceCtorEq, ↓reduceIte, ares, aresult, pr, Int.reduceEq, Int.reduceLT, Int.reduceLE, Nat.reduceSub, Nat.reduceMul, aFieldAddr, aField, aLoad, aStore, aExtract, aBox, aint, rdVar, rdCells, Value.oneCell', splice, Int.reduceNeg, zvar1, chunks, depth, some_map, Nat.reduceBEq, cf_dyn, okU, Tryz.f27, rf27, loopAt, findLoop, firstId, Option.getD_some, Option.some.injEq, Nat.reduceEqDiff, if_false, if_true, RuleT.c, hj, xj, hw j hj, hv, hnl, hH0, f1, f2, hp, hbo]
        generalize hA : aloop _ _ _ _ _ _ _ _ _ _ _ = A
        have bl := boundT_len (a := r.head) (s := d.2)
        obtain ⟨tl', eA⟩ := dem_loop (p := p) (r := r) (n := n) (i := j) (op := op) (out := O) (hv := boundT r.head d.2) (tl := tl) hop c1 c3 hk hA (by rw [hv]; simp only [R0, RC, zipEnv, Nat.reduceLT, Nat.reduceAdd, Nat.reduceEqDiff, Nat.reduceLeDiff, reduceCtorEq, ↓reduceIte, ares, aresult, pr, Int.reduceEq, Int.reduceLT, Int.reduceLE, Nat.reduceSub, Nat.reduceMul, aFieldAddr, aField, aLoad, aStore, aExtract, aBox, aint, rdVar, rdCells, Value.oneCell', splice, Int.reduceNeg, zvar1, chunks, depth, some_map, Nat.reduceBEq, cf_dyn, okU, Tryz.f27, rf27]) hne (by omega) (by omega)
        rw [eA]
        exact ⟨_, by
          simp only [R0, RC, zipEnv, Nat.reduceLT, Nat.reduceAdd, Nat.reduceEqDiff, Nat.reduceLeDiff, reduceCtorEq, ↓reduceIte, ares, aresult, pr, Int.reduceEq, Int.reduceLT, Int.reduceLE, Nat.reduceSub, Nat.reduceMul, aFieldAddr, aField, aLoad, aStore, aExtract, aBox, aint, rdVar, rdCells, Value.oneCell', splice, Int.reduceNeg, zvar1, chunks, depth, some_map, Nat.reduceBEq, cf_dyn, okU, Tryz.f27, rf27, hw j hj], tl', rfl⟩
      · rw [if_neg hp]
        refine ⟨_, by
          simp only [R0, RC, zipEnv, Nat.reduceLT, Nat.reduceAdd, Nat.reduceEqDiff, Nat.reduceLeDiff, reduceCtorEq, ↓reduceIte, ares, aresult, pr, Int.reduceEq, Int.reduceLT, Int.reduceLE, Nat.reduceSub, Nat.reduceMul, aFieldAddr, aField, aLoad, aStore, aExtract, aBox, aint, rdVar, rdCells, Value.oneCell', splice, Int.reduceNeg, zvar1, chunks, depth, some_map, Nat.reduceBEq, cf_dyn, okU, Tryz.f27, rf27, loopAt, findLoop, firstId, Option.getD_some, Option.some.injEq, Nat.reduceEqDiff, if_false, if_true, RuleT.c, hj, xj, hw j hj, hv, hnl, hH0, f1, f2, hp], tl, rfl⟩) (fun s ⟨tl, hs⟩ => by
      subst hs
      simp only [R0, RC, zipEnv, Nat.reduceLT, Nat.reduceAdd, Nat.reduceEqDiff, Nat.reduceLeDiff, reduceCtorEq, ↓reduceIte, ares, aresult, pr, Int.reduceEq, Int.reduceLT, Int.reduceLE, Nat.reduceSub, Nat.reduceMul, aFieldAddr, aField, aLoad, aStore, aExtract, aBox, aint, rdVar, rdCells, Value.oneCell', splice, Int.reduceNeg, zvar1, chunks, depth, some_map, Nat.reduceBEq, cf_dyn, okU, Tryz.f27, rf27, loopAt, findLoop, firstId, Option.getD_some, Option.some.injEq, Nat.reduceEqDiff, if_false, if_true])
  subst hs
  rw [List.take_length] at e
  refine ⟨tl', ?_⟩
  rw [e]
  simp only [R0, RC, zipEnv, Nat.reduceLT, Nat.reduceAdd, Nat.reduceEqDiff, Nat.reduceLeDiff, reduceCtorEq, ↓reduceIte, ares, aresult, pr, Int.reduceEq, Int.reduceLT, Int.reduceLE, Nat.reduceSub, Nat.reduceMul, aFieldAddr, aField, aLoad, aStore, aExtract, aBox, aint, rdVar, rdCells, Value.oneCell', splice, Int.reduceNeg, zvar1, chunks, depth, some_map, Nat.reduceBEq, cf_dyn, okU, Tryz.f27, rf27, loopAt, findLoop, firstId, Option.getD_some, Option.some.injEq, Nat.reduceEqDiff, if_false, if_true]
end Go.Proofs.YtpgipdajinkdgaaGreatA

namespace Go.Proofs.YtpgipdajinkdgaaGreatA
open Go Go.RowKit
set_option linter.all false
set_option linter.unusedSectionVars false
set_option linter.constructorNameAsVariable false
set_option linter.unusedVariables false
set_option linter.unusedSimpArgs false
def allL : Nat → List (List UInt8)
  | 0 => [[]]
  | n + 1 => (allL n).flatMap fun t => [98 :: t, 102 :: t]
theorem allL_len : ∀ n, (allL n).length = 2 ^ n
  | 0 => rfl
  | n + 1 => by
    unfold allL
    rw [List.length_flatMap]
    simp only [List.length_cons, List.length_nil]
    rw [List.map_const', List.sum_replicate_nat, allL_len n]
    omega
theorem patB_or2 {bound : List ByteArray} {t : TermT} : patB bound t = 98 ∨ patB bound t = 102 := by
  unfold patB
  split
  · exact .inl rfl
  · exact .inr rfl
theorem allL_mem {V : List ByteArray} : ∀ l : List TermT, l.map (patB V) ∈ allL l.length
  | [] => by simp [allL]
  | t :: l => by
    unfold allL
    simp only [List.map_cons, List.length_cons, List.mem_flatMap]
    refine ⟨_, allL_mem (V := V) l, ?_⟩
    rcases patB_or2 (bound := V) (t := t) with h | h <;> rw [h] <;> simp
def univL (x : LitT) : List D2 := (allL x.a.args.length).map fun t => (x.a.p, ⟨t.toArray⟩)
def univ (p : ProgT) : List D2 := (p.query.p, patS [] p.query.args) :: p.rules.flatMap fun r => r.body.flatMap univL
theorem univ_mem {p : ProgT} {r : RuleT} {x : LitT} {V : List ByteArray} (hr : r ∈ p.rules) (hx : x ∈ r.body) : litD x V ∈ univ p := by
  unfold univ
  refine List.mem_cons_of_mem _ (List.mem_flatMap.2 ⟨r, hr, List.mem_flatMap.2 ⟨x, hx, ?_⟩⟩)
  unfold univL litD patS
  exact List.mem_map.2 ⟨_, allL_mem x.a.args, rfl⟩
theorem flat_le {α β : Type} {g : α → List β} {m : Nat} : ∀ l : List α, (∀ x ∈ l, (g x).length ≤ m) → (l.flatMap g).length ≤ l.length * m
  | [], _ => by simp
  | x :: l, h => by
    have h1 := h x (by simp)
    have h2 := flat_le l fun y hy => h y (by simp [hy])
    rw [List.flatMap_cons, List.length_append, List.length_cons, Nat.add_mul, Nat.one_mul]
    omega
theorem univ_len {p : ProgT} (hR : p.rules.length ≤ 8) (hB : ∀ r ∈ p.rules, r.body.length ≤ 6 ∧ ∀ x ∈ r.body, x.a.args.length ≤ 4) : (univ p).length ≤ 769 := by
  unfold univ
  have h1 : ∀ r ∈ p.rules, (r.body.flatMap univL).length ≤ 96 := fun r hr => by
    have := flat_le (g := univL) (m := 16) r.body fun x hx => by
      unfold univL
      rw [List.length_map, allL_len]
      exact Nat.le_trans (Nat.pow_le_pow_right (by omega) ((hB r hr).2 x hx)) (by omega)
    have h6 := (hB r hr).1
    have : r.body.length * 16 ≤ 6 * 16 := Nat.mul_le_mul_right _ h6
    omega
  have h2 := flat_le p.rules h1
  have : p.rules.length * 96 ≤ 8 * 96 := Nat.mul_le_mul_right _ hR
  rw [List.length_cons]
  omega
structure DemI (p : ProgT) (op : List ByteArray) (out : List D2) : Prop where
  head : out[0]? = some (p.query.p, patS [] p.query.args)
  pred : ∀ d ∈ out, inS op d.1 = true
  nodup : out.Nodup
  src : ∀ (i : Nat) d, out[i]? = some d → i = 0 ∨ ∃ r ∈ p.rules, ∃ x ∈ r.body, x.k = 1 ∧ ∃ V, d = litD x V
theorem nodup_le {out u : List D2} (hn : out.Nodup) (hs : ∀ d ∈ out, d ∈ u) : out.length ≤ u.length := by
  induction out generalizing u with
  | nil => simp
  | cons x out ih =>
    rw [List.nodup_cons] at hn
    have hx := hs x (by simp)
    have h1 := ih (u := u.filter fun y => !decide (y = x)) hn.2 fun d hd => by
      rw [List.mem_filter]
      refine ⟨hs d (by simp [hd]), ?_⟩
      rw [Bool.not_eq_true', decide_eq_false_iff_not]
      intro e
      subst e
      exact hn.1 hd
    have h2 : (u.filter fun y => !decide (y = x)).length < u.length := by
      rw [List.length_filter_lt_length_iff_exists]
      exact ⟨x, hx, by simp⟩
    rw [List.length_cons]
    omega
theorem DemI.len {p : ProgT} {op : List ByteArray} {out : List D2} (h : DemI p op out) (hR : p.rules.length ≤ 8) (hB : ∀ r ∈ p.rules, r.body.length ≤ 6 ∧ ∀ x ∈ r.body, x.a.args.length ≤ 4) : out.length ≤ 769 :=
  Nat.le_trans (nodup_le h.nodup fun d hd => by
    obtain ⟨i, hi, rfl⟩ := List.mem_iff_getElem.1 hd
    rcases h.src i _ (List.getElem?_eq_getElem hi) with rfl | ⟨r, hr, x, hx, _, V, e⟩
    · have := h.head
      rw [List.getElem?_eq_getElem hi, Option.some.injEq] at this
      rw [this]
      exact List.mem_cons_self
    · rw [e]
      exact univ_mem hr hx) (univ_len hR hB)
theorem DemI.litS {p : ProgT} {op : List ByteArray} {s : List D2 × List ByteArray} {r : RuleT} {x : LitT} (h : DemI p op s.1) (hr : r ∈ p.rules) (hx : x ∈ r.body) : DemI p op (litS op s x).1 := by
  unfold Go.Proofs.YtpgipdajinkdgaaGreatA.litS
  simp only
  split
  · rename_i ha
    unfold asksB at ha
    simp only [Bool.and_eq_true, decide_eq_true_eq, Bool.not_eq_true', List.any_eq_false] at ha
    obtain ⟨⟨h1, h2⟩, h3⟩ := ha
    refine ⟨at_more h.head, fun d hd => ?_, ?_, fun i d hd => ?_⟩
    · rw [List.mem_append, List.mem_singleton] at hd
      rcases hd with hd | rfl
      · exact h.pred d hd
      · exact h2
    · rw [List.nodup_append]
      refine ⟨h.nodup, by simp, fun a ha b hb => ?_⟩
      rw [List.mem_singleton] at hb
      subst hb
      intro e
      subst e
      exact h3 _ ha rfl
    · by_cases hi : i < s.1.length
      · rw [List.getElem?_append_left hi] at hd
        exact h.src i d hd
      · right
        rw [List.getElem?_append_right (by omega)] at hd
        have := List.mem_of_getElem? hd
        rw [List.mem_singleton] at this
        exact ⟨r, hr, x, hx, h1, s.2, this⟩
  · exact h
theorem DemI.body {p : ProgT} {op : List ByteArray} {r : RuleT} (hr : r ∈ p.rules) : ∀ (l : List LitT) (s : List D2 × List ByteArray), (∀ x ∈ l, x ∈ r.body) → DemI p op s.1 → DemI p op (l.foldl (Go.Proofs.YtpgipdajinkdgaaGreatA.litS op) s).1
  | [], s, _, h => h
  | x :: l, s, hl, h => by
    rw [List.foldl_cons]
    exact DemI.body hr l _ (fun y hy => hl y (by simp [hy])) (h.litS hr (hl x (by simp)))
theorem DemI.rules {p : ProgT} {op : List ByteArray} {d : D2} : ∀ (l : List RuleT) (out : List D2), (∀ x ∈ l, x ∈ p.rules) → DemI p op out → DemI p op (l.foldl (ruleS op d) out)
  | [], s, _, h => h
  | r :: l, s, hl, h => by
    rw [List.foldl_cons]
    refine DemI.rules l _ (fun y hy => hl y (by simp [hy])) ?_
    unfold ruleS
    split
    · exact DemI.body (hl r (by simp)) _ (s, _) (fun x hx => hx) h
    · exact h
end Go.Proofs.YtpgipdajinkdgaaGreatA

namespace Go.Proofs.YtpgipdajinkdgaaGreatA
open Go Go.RowKit
set_option linter.all false
set_option linter.unusedSectionVars false
set_option linter.constructorNameAsVariable false
set_option linter.unusedVariables false
set_option linter.unusedSimpArgs false
set_option maxHeartbeats 2000000 in
theorem demands_run (p : ProgT) (hR : p.rules.length ≤ 8) (hQ : p.query.args.length ≤ 4) (hB : ∀ r ∈ p.rules, r.body.length ≤ 6 ∧ r.head.args.length ≤ 10 ∧ ∀ x ∈ r.body, x.a.args.length ≤ 4) (hop : (openT p).length ≤ 1000) (k : Nat) (hk : 1000400 ≤ k)
    (hopen : ∀ k, 1000300 ≤ k → val Tryz.prog cf k 26 [.agg p.c] = some (mkL 1 (sRows (openT p)))) :
    ∃ out, val Tryz.prog cf k 27 [.agg p.c] = some (mkL 2 (dRows out)) ∧ (inS (openT p) p.query.p = false → out = []) ∧ (inS (openT p) p.query.p = true → DemI p (openT p) out) := by
  obtain ⟨k, rfl⟩ : ∃ j, k = j + 1 := ⟨k - 1, by omega⟩
  have ho := hopen k (by omega)
  have hin2 := containsS_run (openT p) p.query.p (by omega) k (by omega)
  have hpat := pattern_run p.query [] (by omega) (by simp) k (by omega)
  rw [show mkL 1 ((openT p).map sC) = mkL 1 (sRows (openT p)) from rfl] at hin2
  have hB3 : ∀ r ∈ p.rules, r.body.length ≤ 6 ∧ r.head.args.length ≤ 10 ∧ ∀ x ∈ r.body, x.a.args.length ≤ 10 := fun r hr => ⟨(hB r hr).1, (hB r hr).2.1, fun x hx => Nat.le_trans ((hB r hr).2.2 x hx) (by omega)⟩
  have hB2 : ∀ r ∈ p.rules, r.body.length ≤ 6 ∧ ∀ x ∈ r.body, x.a.args.length ≤ 4 := fun r hr => ⟨(hB r hr).1, (hB r hr).2.2⟩
  generalize openT p = op at *
  simp only [ProgT.c] at ho
  have m0 : mkL 1 (([] : List ByteArray).map sC) = mkL 0 [] := rfl
  rw [m0] at hpat
  have key : ∃ out v H', arun Tryz.prog cf (k + 1) 27 [.agg p.c] [] = some (v, H') ∧ OutAt 28 2 H' v (dRows out) ∧ (inS op p.query.p = false → out = []) ∧ (inS op p.query.p = true → DemI p op out) := by
    rw [arun_body rfl rfl Tryz.func27 rfl (N := 98) rfl]
    cases hq : inS op p.query.p with
    | false =>
      rw [hq] at hin2
      refine ⟨[], .sc (.slice none 0 0), ?_⟩
      simp only [R0, RC, zipEnv, Nat.reduceLT, Nat.reduceAdd, Nat.reduceEqDiff, Nat.reduceLeDiff, reduceCtorEq, ↓reduceIte, ares, aresult, pr, Int.reduceEq, Int.reduceLT, Int.reduceLE, Nat.reduceSub, Nat.reduceMul, aFieldAddr, aField, aLoad, aStore, aExtract, aBox, aint, rdVar, rdCells, Value.oneCell', splice, Int.reduceNeg, zvar1, chunks, depth, some_map, Nat.reduceBEq, cf_dyn, okU, Tryz.f27, rf27, ProgT.c, ho, hin2]
      exact ⟨_, rfl, .inl ⟨rfl, rfl⟩, by simp⟩
    | true =>
      rw [hq] at hin2
      simp only [R0, RC, zipEnv, Nat.reduceLT, Nat.reduceAdd, Nat.reduceEqDiff, Nat.reduceLeDiff, reduceCtorEq, ↓reduceIte, ares, aresult, pr, Int.reduceEq, Int.reduceLT, Int.reduceLE, Nat.reduceSub, Nat.reduceMul, aFieldAddr, aField, aLoad, aStore, aExtract, aBox, aint, rdVar, rdCells, Value.oneCell', splice, Int.reduceNeg, zvar1, chunks, depth, some_map, Nat.reduceBEq, cf_dyn, okU, Tryz.f27, rf27, ProgT.c, ho, hin2, hpat]
      generalize hA : aloop _ _ _ _ _ _ _ _ _ _ _ = A
      obtain ⟨R, eA, E, out, tl, hRe, hE, hI⟩ := aloop_T hA [1, 3, 4, 5]
        (fun n s => ∃ out tl, s = ⟨[(1, .ro p.c), (3, mkL 1 (sRows op)), (4, accV 0 2 (dRows out)), (5, .sc (.int .i64 (n : Nat)))], demH out tl⟩ ∧ DemI p op out ∧ n ≤ out.length)
        (fun R => ∃ E out tl, R = (.exit 0, ⟨E, demH out tl⟩) ∧ eget E 4 = accV 0 2 (dRows out) ∧ DemI p op out)
        1000 (by omega) rfl
        ⟨[(p.query.p, patS [] p.query.args)], [], by simp only [R0, RC, zipEnv, Nat.reduceLT, Nat.reduceAdd, Nat.reduceEqDiff, Nat.reduceLeDiff, reduceCtorEq, ↓reduceIte, ares, aresult, pr, Int.reduceEq, Int.reduceLT, Int.reduceLE, Nat.reduceSub, Nat.reduceMul, aFieldAddr, aField, aLoad, aStore, aExtract, aBox, aint, rdVar, rdCells, Value.oneCell', splice, Int.reduceNeg, zvar1, chunks, depth, some_map, Nat.reduceBEq, cf_dyn, okU, Tryz.f27, rf27, ProgT.c]; rfl, ⟨rfl, fun d hd => by rw [List.mem_singleton] at hd; subst hd; exact hq, by simp, fun i d hd => by
          cases i with
          | zero => exact .inl rfl
          | succ i => simp at hd⟩, by simp⟩
        (fun n hn s ⟨out, tl, hs, hI, hle⟩ => by
          subst hs
          have hlen := hI.len hR hB2
          have hO : (dRows out).length = out.length := by unfold dRows; simp
          have hd : dRows out ≠ [] := by
            intro h
            have := hI.head
            have h2 : out = [] := by unfold dRows at h; simpa using h
            subst h2
            simp at this
          have hv : accV 0 2 (dRows out) = .own 0 0 out.length 2 (out.length - 1) := by unfold accV; rw [if_neg hd, hO]
          by_cases hlt : n < out.length
          · left
            obtain ⟨d, hdn⟩ : ∃ d, out[n]? = some d := ⟨_, List.getElem?_eq_getElem hlt⟩
            have hw := wrap_succ (j := n) (by omega)
            simp only [R0, RC, zipEnv, Nat.reduceLT, Nat.reduceAdd, Nat.reduceEqDiff, Nat.reduceLeDiff, reduceCtorEq, ↓reduceIte, ares, aresult, pr, Int.reduceEq, Int.reduceLT, Int.reduceLE, Nat.reduceSub, Nat.reduceMul, aFieldAddr, aField, aLoad, aStore, aExtract, aBox, aint, rdVar, rdCells, Value.oneCell', splice, Int.reduceNeg, zvar1, chunks, depth, some_map, Nat.reduceBEq, cf_dyn, okU, Tryz.f27, rf27, ProgT.c, hv, hlt, inScope_g]
            generalize hC : aloop _ _ _ _ _ _ _ _ _ _ _ = C
            obtain ⟨tl', eC⟩ := dem_rules (p := p) (n := n) (d := d) (op := op) (out := out) (tl := tl) hop hR hB3 (by omega) hC (by rw [hv]; simp only [R0, RC, zipEnv, Nat.reduceLT, Nat.reduceAdd, Nat.reduceEqDiff, Nat.reduceLeDiff, reduceCtorEq, ↓reduceIte, ares, aresult, pr, Int.reduceEq, Int.reduceLT, Int.reduceLE, Nat.reduceSub, Nat.reduceMul, aFieldAddr, aField, aLoad, aStore, aExtract, aBox, aint, rdVar, rdCells, Value.oneCell', splice, Int.reduceNeg, zvar1, chunks, depth, some_map, Nat.reduceBEq, cf_dyn, okU, Tryz.f27, rf27, ProgT.c]) hdn (by omega)
            rw [eC]
            obtain ⟨more, hm⟩ := ruleF_more (op := op) (d := d) p.rules out
            have hI2 := DemI.rules (d := d) p.rules out (fun x hx => hx) hI
            exact ⟨_, by simp only [R0, RC, zipEnv, Nat.reduceLT, Nat.reduceAdd, Nat.reduceEqDiff, Nat.reduceLeDiff, reduceCtorEq, ↓reduceIte, ares, aresult, pr, Int.reduceEq, Int.reduceLT, Int.reduceLE, Nat.reduceSub, Nat.reduceMul, aFieldAddr, aField, aLoad, aStore, aExtract, aBox, aint, rdVar, rdCells, Value.oneCell', splice, Int.reduceNeg, zvar1, chunks, depth, some_map, Nat.reduceBEq, cf_dyn, okU, Tryz.f27, rf27, ProgT.c, hw], _, tl', rfl, hI2, by rw [hm, List.length_append]; omega⟩
          · right
            refine ⟨_, by simp only [R0, RC, zipEnv, Nat.reduceLT, Nat.reduceAdd, Nat.reduceEqDiff, Nat.reduceLeDiff, reduceCtorEq, ↓reduceIte, ares, aresult, pr, Int.reduceEq, Int.reduceLT, Int.reduceLE, Nat.reduceSub, Nat.reduceMul, aFieldAddr, aField, aLoad, aStore, aExtract, aBox, aint, rdVar, rdCells, Value.oneCell', splice, Int.reduceNeg, zvar1, chunks, depth, some_map, Nat.reduceBEq, cf_dyn, okU, Tryz.f27, rf27, ProgT.c, hv, hlt]; rfl, rfl, _, out, tl, rfl, ?_, hI⟩
            simp only [eget_cons, if_true, if_false, Nat.reduceEqDiff, hv])
        (fun s ⟨out, tl, hs, hI, hle⟩ => by
          have hlen := hI.len hR hB2
          omega)
      rw [eA, hRe]
      refine ⟨out, accV 0 2 (dRows out), demH out tl, ?_, demH_at, by simp [hI]⟩
      simp only [R0, RC, zipEnv, Nat.reduceLT, Nat.reduceAdd, Nat.reduceEqDiff, Nat.reduceLeDiff, reduceCtorEq, ↓reduceIte, ares, aresult, pr, Int.reduceEq, Int.reduceLT, Int.reduceLE, Nat.reduceSub, Nat.reduceMul, aFieldAddr, aField, aLoad, aStore, aExtract, aBox, aint, rdVar, rdCells, Value.oneCell', splice, Int.reduceNeg, zvar1, chunks, depth, some_map, Nat.reduceBEq, cf_dyn, okU, Tryz.f27, rf27, hE, eget_eput, if_true]
  obtain ⟨out, v, H', e, ho, h1, h2⟩ := key
  exact ⟨out, val_acc e ho dRows_row (fun r hr x hx => ⟨dRows_stay r hr x hx, by
    obtain ⟨d, _, rfl⟩ := List.mem_map.1 hr
    simp only [D2.c, List.mem_cons, List.not_mem_nil, or_false] at hx
    rcases hx with rfl | rfl <;> exact ⟨_, rfl⟩⟩), h1, h2⟩
end Go.Proofs.YtpgipdajinkdgaaGreatA
