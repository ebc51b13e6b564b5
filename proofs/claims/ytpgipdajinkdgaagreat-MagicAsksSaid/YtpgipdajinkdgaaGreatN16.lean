/- A part of the proof of MagicAsks: functions of the program, run by the evaluator. -/

/- adorn.Open. -/
import Derived.Test.YtpgipdajinkdgaaGreatN15
namespace Go.Proofs.YtpgipdajinkdgaaGreatA
open Go Go.RowKit
set_option linter.all false
set_option linter.unusedSectionVars false
set_option linter.constructorNameAsVariable false
set_option linter.unusedVariables false
set_option linter.unusedSimpArgs false
def OH (md ms : SM) (tl : List Blk) : List Blk := ⟨0, 0, 0, false, [], .map (encM md)⟩ :: ⟨0, 0, 0, false, [], .map (encM ms)⟩ :: ⟨84, 1, 0, false, [.mp 1 0], .cells⟩ :: tl
theorem derR_le (rs : List RuleT) (s : ByteArray) (h : ∀ r ∈ rs, r.body.length ≤ 1000) : derR rs s ≤ rs.length * 1000 := by
  induction rs with
  | nil => simp [derR]
  | cons r rs ih =>
    have h1 := ih fun x hx => h x (by simp [hx])
    have h2 := h r (by simp)
    unfold derR at *
    simp only [List.map_cons, List.sum_cons, List.length_cons]
    split <;> omega
theorem shutR_le (rs : List RuleT) (s : ByteArray) : shutR rs s ≤ rs.length := by
  induction rs with
  | nil => simp [shutR]
  | cons r rs ih =>
    unfold shutR at *
    simp only [List.map_cons, List.sum_cons, List.length_cons]
    split <;> omega
set_option maxHeartbeats 2000000 in
theorem open_run (p : ProgT) (hR : p.rules.length ≤ 1000) (hBd : ∀ r ∈ p.rules, r.body.length ≤ 1000 ∧ ∀ l ∈ r.body, l.path.length ≤ 900) (hN : (allN p).length ≤ 1000) (k : Nat) (hk : 1000200 ≤ k) :
    val Tryz.prog cf k 26 [.agg p.c] = some (mkL 1 (sRows (openT p))) := by
  obtain ⟨k, rfl⟩ : ∃ j, k = j + 1 := ⟨k - 1, by omega⟩
  have hn := names_run p hR hBd (by omega) k (by omega)
  have hNe := needs_run p hR hBd (by omega) k (by omega)
  have hnl : (namesT p).length ≤ 1000 := Nat.le_trans (Ord.nsort_len_le _) hN
  have hNl : (needsT p).length ≤ 1000 := by
    refine Nat.le_trans (Ord.nsort_len_le _) (Nat.le_trans (rawN_len _ _) ?_)
    simp only [allN, List.length_cons] at hN
    omega
  have hEl : (needsE p).length ≤ 100000 := by unfold needsE; rw [List.length_map]; omega
  have hup := namesT_up p
  have hrch := fun i hi => reach_run (namesT p).length i (needsE p) hnl hi hEl needsE_lt k (by omega)
  rw [show Ord.sorted (allN p) = namesT p from rfl] at hn
  simp only [needsE_enc] at hrch
  simp only [ProgT.c] at hn hNe
  have hopen : openT p = (namesT p).filter (openB p) := rfl
  have hdef : ∀ s, openB p s = true ↔ (0 < derR p.rules s ∧ ∀ v t, Rch (adjN (needsE p)) (posS (namesT p) s) v → (namesT p)[v]? = some t → shutR p.rules t = 0) := fun s => by unfold openB; simp
  rw [hopen]
  obtain ⟨names, hnames⟩ : ∃ names, names = namesT p := ⟨_, rfl⟩
  rw [← hnames] at hn hnl hup hrch hdef ⊢
  have key : ∃ v H', arun Tryz.prog cf (k + 1) 26 [.agg p.c] [] = some (v, H') ∧ OutAt 9 1 H' v (sRows (names.filter (openB p))) := by
    rw [arun_body rfl rfl Tryz.func26 rfl (N := 72) rfl]
    have hwR := wraps (n := p.rules.length) (by omega)
    have hwN := wraps (n := names.length) (by omega)
    simp only [R0, RC, zipEnv, Nat.reduceLT, Nat.reduceAdd, Nat.reduceEqDiff, Nat.reduceLeDiff, reduceCtorEq, ↓reduceIte, ares, aresult, pr, Int.reduceEq, Int.reduceLT, Int.reduceLE, Nat.reduceSub, Nat.reduceMul, aFieldAddr, aField, aLoad, aStore, aExtract, aBox, aint, rdVar, rdCells, Value.oneCell', splice, Int.reduceNeg, zvar1, chunks, depth, some_map, Nat.reduceBEq, cf_dyn, okU, Tryz.f26, rf26, ProgT.c, hn, hNe, aop_makeMap, mkM]
    generalize hA : aloop _ _ _ _ _ _ _ _ _ _ _ = A
    obtain ⟨s, ⟨md, ms, rfl, hd, hs⟩, e1⟩ := aloop_inv2 hA [3, 4, 5, 6, 20, 21, 22] (fun j s => ∃ md ms, s = ⟨[(3, .ro [mkL 1 (sRows names)]), (4, mkL 2 (pRows (needsT p))), (5, .mp 0 0), (6, .ptr 2 0 0), (20, mkL 4 (p.rules.map RuleT.c)), (21, .sc (.int .i64 p.rules.length)), (22, .sc (.int .i64 (j : Nat)))], OH md ms []⟩ ∧ (∀ s, lookM md s = (derR (p.rules.take j) s : Nat)) ∧ (∀ s, lookM ms s = (shutR (p.rules.take j) s : Nat))) p.rules.length (by omega) rfl
      ⟨[], [], by simp only [R0, RC, zipEnv, Nat.reduceLT, Nat.reduceAdd, Nat.reduceEqDiff, Nat.reduceLeDiff, reduceCtorEq, ↓reduceIte, ares, aresult, pr, Int.reduceEq, Int.reduceLT, Int.reduceLE, Nat.reduceSub, Nat.reduceMul, aFieldAddr, aField, aLoad, aStore, aExtract, aBox, aint, rdVar, rdCells, Value.oneCell', splice, Int.reduceNeg, zvar1, chunks, depth, some_map, Nat.reduceBEq, cf_dyn, okU, Tryz.f26, rf26]; rfl, fun s => by simp [lookM, derR], fun s => by simp [lookM, shutR]⟩
      (fun j hj s ⟨md, ms, hs0, hd, hs⟩ => by
        subst hs0
        obtain ⟨r, hr⟩ : ∃ r, r = p.rules[j] := ⟨_, rfl⟩
        have xj : p.rules[j]? = some r := by rw [hr]; exact List.getElem?_eq_getElem hj
        have hrm : r ∈ p.rules := by rw [hr]; exact List.getElem_mem hj
        have hcl := closed_run r (hBd r hrm).1 k (by omega)
        simp only [RuleT.c] at hcl
        have hdl := derR_le (p.rules.take j) r.head.p (fun x hx => (hBd x (List.mem_of_mem_take hx)).1)
        have hsl := shutR_le (p.rules.take j) r.head.p
        rw [List.length_take] at hdl hsl
        have hbl := (hBd r hrm).1
        have l1 : ∀ H x, mapOf H x = some (encM md) → aLook Tryz.prog H 84 x (.sc (.string r.head.p)) false = some (.val (.sc (.int .i64 (derR (p.rules.take j) r.head.p : Nat)))) := fun H x h => by rw [look_sI h, hd]
        have l2 : ∀ H x, mapOf H x = some (encM ms) → aLook Tryz.prog H 84 x (.sc (.string r.head.p)) false = some (.val (.sc (.int .i64 (shutR (p.rules.take j) r.head.p : Nat)))) := fun H x h => by rw [look_sI h, hs]
        have w1 : IntKind.i64.wrap (((derR (p.rules.take j) r.head.p : Nat) : Int) + (r.body.length : Int)) = ((derR (p.rules.take j) r.head.p + r.body.length : Nat) : Int) := by
          rw [← Int.natCast_add]; exact wrap_nat (by omega)
        have w2 : IntKind.i64.wrap (((shutR (p.rules.take j) r.head.p : Nat) : Int) + 1) = ((shutR (p.rules.take j) r.head.p + 1 : Nat) : Int) := wrap_succ (by omega)
        obtain ⟨md2, hmd2⟩ : ∃ md2, md2 = putM md r.head.p ((derR (p.rules.take j) r.head.p + r.body.length : Nat) : Int) := ⟨_, rfl⟩
        have i1 := l1 (OH md ms []) (.mp 0 0) (mapOf_mp rfl)
        have i2 := l2 (OH md2 ms []) (.mp 1 0) (mapOf_mp rfl)
        have p1 := put_sI (H := OH md ms []) (b := 0) (blk := default) (m := md) (s := r.head.p) (v := ((derR (p.rules.take j) r.head.p + r.body.length : Nat) : Int)) rfl
        have p2 := put_sI (H := OH md2 ms []) (b := 1) (blk := default) (m := ms) (s := r.head.p) (v := ((shutR (p.rules.take j) r.head.p + 1 : Nat) : Int)) rfl
        rw [← hmd2] at p1
        unfold OH at i1 i2 p1 p2 ⊢
        have hd2 : ∀ s, lookM md2 s = (derR (p.rules.take (j + 1)) s : Nat) := fun s => by
          rw [hmd2, look_put]
          have e := sum_take (f := fun r : RuleT => if r.head.p = s then r.body.length else 0) xj
          have e' : derR (p.rules.take (j + 1)) s = derR (p.rules.take j) s + if r.head.p = s then r.body.length else 0 := e
          rw [e']
          by_cases hss : s = r.head.p
          · subst hss; simp
          · rw [if_neg hss, if_neg (fun e => hss e.symm), hd]; simp
        cases hc : closedT r with
        | false =>
          rw [hc] at hcl
          refine ⟨_, by simp only [R0, RC, zipEnv, Nat.reduceLT, Nat.reduceAdd, Nat.reduceEqDiff, Nat.reduceLeDiff, reduceCtorEq, ↓reduceIte, ares, aresult, pr, Int.reduceEq, Int.reduceLT, Int.reduceLE, Nat.reduceSub, Nat.reduceMul, aFieldAddr, aField, aLoad, aStore, aExtract, aBox, aint, rdVar, rdCells, Value.oneCell', splice, Int.reduceNeg, zvar1, chunks, depth, some_map, Nat.reduceBEq, cf_dyn, okU, Tryz.f26, rf26, RuleT.c, hj, xj, hwR j hj, hcl, aop_lookup, aop_mapUpdate, i1, w1, p1], md2, ms, rfl, hd2, fun s => ?_⟩
          have e := sum_take (f := fun r : RuleT => if r.head.p = s ∧ closedT r = true then 1 else 0) xj
          have e' : shutR (p.rules.take (j + 1)) s = shutR (p.rules.take j) s + if r.head.p = s ∧ closedT r = true then 1 else 0 := e
          rw [e', hs, hc]; simp
        | true =>
          rw [hc] at hcl
          refine ⟨_, by simp only [R0, RC, zipEnv, Nat.reduceLT, Nat.reduceAdd, Nat.reduceEqDiff, Nat.reduceLeDiff, reduceCtorEq, ↓reduceIte, ares, aresult, pr, Int.reduceEq, Int.reduceLT, Int.reduceLE, Nat.reduceSub, Nat.reduceMul, aFieldAddr, aField, aLoad, aStore, aExtract, aBox, aint, rdVar, rdCells, Value.oneCell', splice, Int.reduceNeg, zvar1, chunks, depth, some_map, Nat.reduceBEq, cf_dyn, okU, Tryz.f26, rf26, RuleT.c, hj, xj, hwR j hj, hcl, aop_lookup, aop_mapUpdate, i1, w1, p1, i2, w2, p2], md2, putM ms r.head.p ((shutR (p.rules.take j) r.head.p + 1 : Nat) : Int), rfl, hd2, fun s => ?_⟩
          have e := sum_take (f := fun r : RuleT => if r.head.p = s ∧ closedT r = true then 1 else 0) xj
          have e' : shutR (p.rules.take (j + 1)) s = shutR (p.rules.take j) s + if r.head.p = s ∧ closedT r = true then 1 else 0 := e
          rw [e', look_put, hc]
          by_cases hss : s = r.head.p
          · subst hss; simp
          · have hss' : ¬ r.head.p = s := fun e => hss e.symm
            rw [if_neg hss, hs]; simp [hss'])
      (fun s ⟨md, ms, hs0, hd, hs⟩ => by
        subst hs0
        simp only [R0, RC, zipEnv, Nat.reduceLT, Nat.reduceAdd, Nat.reduceEqDiff, Nat.reduceLeDiff, reduceCtorEq, ↓reduceIte, ares, aresult, pr, Int.reduceEq, Int.reduceLT, Int.reduceLE, Nat.reduceSub, Nat.reduceMul, aFieldAddr, aField, aLoad, aStore, aExtract, aBox, aint, rdVar, rdCells, Value.oneCell', splice, Int.reduceNeg, zvar1, chunks, depth, some_map, Nat.reduceBEq, cf_dyn, okU, Tryz.f26, rf26])
    rw [e1]
    clear e1 hA A
    rw [List.take_length] at hd hs
    unfold OH
    simp only [R0, RC, zipEnv, Nat.reduceLT, Nat.reduceAdd, Nat.reduceEqDiff, Nat.reduceLeDiff, reduceCtorEq, ↓reduceIte, ares, aresult, pr, Int.reduceEq, Int.reduceLT, Int.reduceLE, Nat.reduceSub, Nat.reduceMul, aFieldAddr, aField, aLoad, aStore, aExtract, aBox, aint, rdVar, rdCells, Value.oneCell', splice, Int.reduceNeg, zvar1, chunks, depth, some_map, Nat.reduceBEq, cf_dyn, okU, Tryz.f26, rf26]
    generalize hA : aloop _ _ _ _ _ _ _ _ _ _ _ = A
    have e1 := aloop_eqR hA [3, 4, 5, 6, 9, 44, 45, 46] (fun j => ⟨[(3, .ro [mkL 1 (sRows names)]), (4, mkL 2 (pRows (needsT p))), (5, .mp 0 0), (6, .ptr 2 0 0), (9, accV 3 1 (sRows ((names.take j).filter (openB p)))), (44, mkL 1 (sRows names)), (45, .sc (.int .i64 names.length)), (46, .sc (.int .i64 (j : Nat)))], OH md ms (accB 9 1 (sRows ((names.take j).filter (openB p))))⟩) names.length (by omega) rfl (by unfold OH; simp only [R0, RC, zipEnv, Nat.reduceLT, Nat.reduceAdd, Nat.reduceEqDiff, Nat.reduceLeDiff, reduceCtorEq, ↓reduceIte, ares, aresult, pr, Int.reduceEq, Int.reduceLT, Int.reduceLE, Nat.reduceSub, Nat.reduceMul, aFieldAddr, aField, aLoad, aStore, aExtract, aBox, aint, rdVar, rdCells, Value.oneCell', splice, Int.reduceNeg, zvar1, chunks, depth, some_map, Nat.reduceBEq, cf_dyn, okU, Tryz.f26, rf26]; rfl) (fun j hj => by
        obtain ⟨s, hs1⟩ : ∃ s, s = names[j] := ⟨_, rfl⟩
        have xj : names[j]? = some s := by rw [hs1]; exact List.getElem?_eq_getElem hj
        obtain ⟨M, hM1, hM2, hM3⟩ := hrch j hj
        have hpos : posS names s = j := by rw [hs1]; exact posS_at hup hj
        obtain ⟨rows, hrows⟩ : ∃ rows, rows = (names.take j).filter (openB p) := ⟨_, rfl⟩
        have hrl : rows.length ≤ j := by rw [hrows]; exact Nat.le_trans (List.length_filter_le _ _) (by rw [List.length_take]; omega)
        have hf := filter_take (q := openB p) xj
        rw [← hrows] at hf ⊢
        have qq : ∀ i ∈ trues M, ∃ t, names[i]? = some t ∧ ((names[i]?).any fun t => decide (0 < lookM ms t)) = decide (0 < lookM ms t) := fun i hi => by
          have hlt : i < names.length := by rw [← hM1]; exact (List.getElem?_eq_some_iff.1 (trues_mem.1 hi)).1
          refine ⟨names[i], List.getElem?_eq_getElem hlt, ?_⟩
          rw [List.getElem?_eq_getElem hlt]
          rfl
        have hTl : (trues M).length ≤ 1000 := by
          have : (trues M).length ≤ M.length := by unfold trues; exact Nat.le_trans (List.length_filter_le _ _) (by simp)
          omega
        have hci := containsInt_run (H := OH md ms (accB 9 1 (sRows rows))) (ms := ms) (names := names) rfl rfl (trues M) (fun i => (names[i]?).any fun t => decide (0 < lookM ms t)) qq hTl k (by omega)
        have il := look_sI (H := OH md ms (accB 9 1 (sRows rows))) (x := .mp 0 0) (m := md) (s := s) (mapOf_mp rfl)
        rw [hd] at il
        have c0 : ((0 : Int) < ((derR p.rules s : Nat) : Int)) = (0 < derR p.rules s) := propext (by omega)
        have hany : (trues M).any (fun i => (names[i]?).any fun t => decide (0 < lookM ms t)) = true ↔ ∃ v t, Rch (adjN (needsE p)) (posS names s) v ∧ names[v]? = some t ∧ shutR p.rules t ≠ 0 := by
          rw [List.any_eq_true]
          constructor
          · rintro ⟨v, hv, hq⟩
            obtain ⟨t, ht, e⟩ := qq v hv
            rw [e] at hq
            refine ⟨v, t, by rw [hpos]; exact (hM2 v).1 (trues_mem.1 hv), ht, ?_⟩
            have := of_decide_eq_true hq
            rw [hs] at this
            omega
          · rintro ⟨v, t, hv, ht, hne⟩
            rw [hpos] at hv
            have hv' := trues_mem.2 ((hM2 v).2 hv)
            refine ⟨v, hv', ?_⟩
            obtain ⟨t', ht', e⟩ := qq v hv'
            rw [ht] at ht'
            cases ht'
            rw [e, hs]
            exact decide_eq_true (by omega)
        unfold OH at hci il ⊢
        cases ho : openB p s with
        | true =>
          obtain ⟨o1, o2⟩ := (hdef s).1 ho
          have ha : (trues M).any (fun i => (names[i]?).any fun t => decide (0 < lookM ms t)) = false := by
            rw [Bool.eq_false_iff]
            intro h
            obtain ⟨v, t, h1, h2, h3⟩ := hany.1 h
            exact h3 (o2 v t h1 h2)
          rw [ha] at hci
          have hb := acc1 (P := Tryz.prog) (H := OH md ms []) (rows := sRows rows) (r := sC s) ro36 sRows_row rfl rfl (by rw [List.length_map]; omega) (by rw [List.length_map]; unfold maxLen; omega)
          have e2 : sRows ((names.take (j + 1)).filter (openB p)) = sRows rows ++ [sC s] := by rw [hf, ho]; simp [sRows]
          rw [← e2] at hb
          unfold OH at hb
          simp only [List.cons_append, List.nil_append, List.length_cons, List.length_nil, Nat.zero_add, sC] at hb
          simp only [R0, RC, zipEnv, Nat.reduceLT, Nat.reduceAdd, Nat.reduceEqDiff, Nat.reduceLeDiff, reduceCtorEq, ↓reduceIte, ares, aresult, pr, Int.reduceEq, Int.reduceLT, Int.reduceLE, Nat.reduceSub, Nat.reduceMul, aFieldAddr, aField, aLoad, aStore, aExtract, aBox, aint, rdVar, rdCells, Value.oneCell', splice, Int.reduceNeg, zvar1, chunks, depth, some_map, Nat.reduceBEq, cf_dyn, okU, Tryz.f26, rf26, sC, hj, xj, hwN j hj, hM3, aop_lookup, il, c0, o1, hci, hb]
        | false =>
          have e2 : (names.take (j + 1)).filter (openB p) = rows := by rw [hf, ho]; simp
          rw [e2]
          by_cases o1 : 0 < derR p.rules s
          · have ha : (trues M).any (fun i => (names[i]?).any fun t => decide (0 < lookM ms t)) = true := by
              rw [hany]
              false_or_by_contra
              rename_i hno
              have := (hdef s).2 ⟨o1, fun v t h1 h2 => by
                false_or_by_contra
                rename_i h3
                exact hno ⟨v, t, h1, h2, h3⟩⟩
              rw [ho] at this
              cases this
            rw [ha] at hci
            simp only [R0, RC, zipEnv, Nat.reduceLT, Nat.reduceAdd, Nat.reduceEqDiff, Nat.reduceLeDiff, reduceCtorEq, ↓reduceIte, ares, aresult, pr, Int.reduceEq, Int.reduceLT, Int.reduceLE, Nat.reduceSub, Nat.reduceMul, aFieldAddr, aField, aLoad, aStore, aExtract, aBox, aint, rdVar, rdCells, Value.oneCell', splice, Int.reduceNeg, zvar1, chunks, depth, some_map, Nat.reduceBEq, cf_dyn, okU, Tryz.f26, rf26, sC, hj, xj, hwN j hj, hM3, aop_lookup, il, c0, o1, hci]
          · simp only [R0, RC, zipEnv, Nat.reduceLT, Nat.reduceAdd, Nat.reduceEqDiff, Nat.reduceLeDiff, reduceCtorEq, ↓reduceIte, ares, aresult, pr, Int.reduceEq, Int.reduceLT, Int.reduceLE, Nat.reduceSub, Nat.reduceMul, aFieldAddr, aField, aLoad, aStore, aExtract, aBox, aint, rdVar, rdCells, Value.oneCell', splice, Int.reduceNeg, zvar1, chunks, depth, some_map, Nat.reduceBEq, cf_dyn, okU, Tryz.f26, rf26, sC, hj, xj, hwN j hj, hM3, aop_lookup, il, c0, o1]) (by simp only [R0, RC, zipEnv, Nat.reduceLT, Nat.reduceAdd, Nat.reduceEqDiff, Nat.reduceLeDiff, reduceCtorEq, ↓reduceIte, ares, aresult, pr, Int.reduceEq, Int.reduceLT, Int.reduceLE, Nat.reduceSub, Nat.reduceMul, aFieldAddr, aField, aLoad, aStore, aExtract, aBox, aint, rdVar, rdCells, Value.oneCell', splice, Int.reduceNeg, zvar1, chunks, depth, some_map, Nat.reduceBEq, cf_dyn, okU, Tryz.f26, rf26]; rfl) rfl
    rw [e1, List.take_length]
    refine ⟨_, _, by simp only [R0, RC, zipEnv, Nat.reduceLT, Nat.reduceAdd, Nat.reduceEqDiff, Nat.reduceLeDiff, reduceCtorEq, ↓reduceIte, ares, aresult, pr, Int.reduceEq, Int.reduceLT, Int.reduceLE, Nat.reduceSub, Nat.reduceMul, aFieldAddr, aField, aLoad, aStore, aExtract, aBox, aint, rdVar, rdCells, Value.oneCell', splice, Int.reduceNeg, zvar1, chunks, depth, some_map, Nat.reduceBEq, cf_dyn, okU, Tryz.f26, rf26]; rfl, ?_⟩
    exact acc_out (H := OH md ms [])
  obtain ⟨v, H', e, hh⟩ := key
  exact val_acc e hh sRows_row sRows_stay
end Go.Proofs.YtpgipdajinkdgaaGreatA
