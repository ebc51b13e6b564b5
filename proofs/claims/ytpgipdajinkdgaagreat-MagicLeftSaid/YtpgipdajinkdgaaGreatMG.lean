/- What is asked for alone: its rules. What a rewriting is made of. -/
import Derived.Test.YtpgipdajinkdgaaGreatM9
namespace Go.Proofs.YtpgipdajinkdgaaGreatA
open Go Go.RowKit
set_option linter.all false
set_option linter.unusedSectionVars false
set_option linter.constructorNameAsVariable false
set_option linter.unusedVariables false
set_option linter.unusedSimpArgs false
theorem sum_zero {l : List Nat} (h : l.sum = 0) : ∀ x ∈ l, x = 0 := by
  induction l with
  | nil => intro x hx; cases hx
  | cons a l ih =>
    rw [List.sum_cons] at h
    intro x hx
    rcases List.mem_cons.1 hx with rfl | hx
    · omega
    · exact ih (by omega) x hx
theorem le_sum {l : List Nat} : ∀ x ∈ l, x ≤ l.sum := by
  induction l with
  | nil => intro x hx; cases hx
  | cons a l ih =>
    rw [List.sum_cons]
    intro x hx
    rcases List.mem_cons.1 hx with rfl | hx
    · omega
    · have := ih x hx
      omega
theorem adj_mem2 {E : List (Nat × Nat)} {i c : Nat} (h : (i, c) ∈ E) : c ∈ adjN E i := by
  unfold adjN
  exact List.mem_map.2 ⟨(i, c), List.mem_filter.2 ⟨h, by simp⟩, rfl⟩
theorem rch_first {A : Nat → List Nat} {a b c : Nat} (h : b ∈ A a) (h2 : Rch A b c) : Rch A a c := by
  induction h2 with
  | refl => exact .step .refl h
  | step _ hc ih => exact .step ih hc
open Classical in
theorem openB_iff {p : ProgT} {s : ByteArray} : openB p s = true ↔ (0 < derR p.rules s ∧ ∀ v t, Rch (adjN (needsE p)) (posS (namesT p) s) v → (namesT p)[v]? = some t → shutR p.rules t = 0) := by
  unfold openB
  rw [decide_eq_true_eq]
theorem open_head {p : ProgT} {s : ByteArray} (h : s ∈ openT p) {r : RuleT} (hr : r ∈ p.rules) (hs : r.head.p = s) : r.fold = 0 ∧ ∀ l ∈ r.body, l.k ≠ 2 ∧ l.k ≠ 5 := by
  unfold openT at h
  obtain ⟨hn, ho⟩ := List.mem_filter.1 h
  have ho := openB_iff.1 ho
  obtain ⟨hlt, e⟩ := posS_mem (namesT_up p) hn
  have h0 := ho.2 _ s .refl (by rw [List.getElem?_eq_getElem hlt, e])
  have h1 := sum_zero h0 _ (List.mem_map.2 ⟨r, hr, rfl⟩)
  have h2 : closedT r = false := by
    cases hc : closedT r
    · rfl
    · rw [if_pos ⟨hs, hc⟩] at h1
      omega
  unfold closedT at h2
  simp only [Bool.or_eq_false_iff, Bool.not_eq_false', decide_eq_true_eq] at h2
  refine ⟨h2.1, fun l hl => ?_⟩
  have h3 := List.any_eq_false.1 h2.2 l hl
  unfold cl1 at h3
  simp only [Bool.or_eq_true, decide_eq_true_eq, not_or] at h3
  exact h3
theorem open_step {p : ProgT} {s t : ByteArray} (h : s ∈ openT p) {r : RuleT} (hr : r ∈ p.rules) (hs : r.head.p = s) {l : LitT} (hl : l ∈ r.body) (hk : l.k = 1) (ht : l.a.p = t) (hd : derB p t = true) : t ∈ openT p := by
  unfold openT at h ⊢
  obtain ⟨hn, ho⟩ := List.mem_filter.1 h
  have ho := openB_iff.1 ho
  have hu : t ∈ usesT l := by
    unfold usesT
    rw [if_pos (.inl hk), ht]
    exact (Ord.nsort_mem Ord.linS _ _).2 (by simp)
  refine List.mem_filter.2 ⟨uses_named hr hl hu, ?_⟩
  refine openB_iff.2 ⟨?_, fun v w hv hw => ho.2 v w (rch_first (adj_mem2 ?_) hv) hw⟩
  · unfold derB at hd
    obtain ⟨q, hq, hd⟩ := List.any_eq_true.1 hd
    unfold derQ at hd
    simp only [Bool.and_eq_true, decide_eq_true_eq] at hd
    have := le_sum _ (List.mem_map.2 ⟨q, hq, rfl⟩ : (if q.head.p = t then q.body.length else 0) ∈ p.rules.map fun r => if r.head.p = t then r.body.length else 0)
    rw [if_pos hd.1] at this
    unfold derR
    omega
  · unfold needsE
    refine List.mem_map.2 ⟨((posS (namesT p) r.head.p : Int), (posS (namesT p) t : Int)), ?_, by rw [hs]; rfl⟩
    unfold needsT
    refine (Ord.nsort_mem linP2 _ _).2 ?_
    unfold rawN rawR
    refine List.mem_flatMap.2 ⟨r, hr, List.mem_map.2 ⟨(l, t), ?_, rfl⟩⟩
    unfold eachL
    exact List.mem_flatMap.2 ⟨l, hl, List.mem_map.2 ⟨t, hu, rfl⟩⟩
theorem pre_app (a b : ByteArray) : preB (a ++ b) a = true := by
  unfold preB
  rw [Bool.and_eq_true, decide_eq_true_eq, decide_eq_true_eq]
  refine ⟨by rw [ByteArray.size_append]; omega, ?_⟩
  apply ByteArray.ext
  simp
theorem pre_ask (px : ByteArray) (d : D2) : preB (askS px d) px = true := by
  unfold askS
  rw [ByteArray.append_assoc, ByteArray.append_assoc]
  exact pre_app _ _
theorem pre_found (px : ByteArray) (d : D2) : preB (foundS px d) px = true := by
  unfold foundS askS
  rw [ByteArray.append_assoc, ByteArray.append_assoc, ByteArray.append_assoc]
  exact pre_app _ _
theorem pfx_no {p : ProgT} {s : ByteArray} (h : s ∈ namesT p) : preB s (pfxT p) = false := by
  have h2 := pfxJ_no (Ord.sorted (allN p))
  unfold noPre at h2
  rw [Bool.not_eq_true', List.any_eq_false] at h2
  have := h2 s h
  unfold pfxT
  simpa using this
def badL (p : ProgT) (px : ByteArray) (l : LitT) : Bool := decide (l.k = 2) || (decide (l.k = 5) || (decide (l.k = 1) && !preB l.a.p px && derB p l.a.p))
structure Made (p : ProgT) (px : ByteArray) (x : RuleT) : Prop where
  head : preB x.head.p px = true
  fold : x.fold = 0
  body : ∀ l ∈ x.body, badL p px l = false
  len : x.body.length ≤ 1000
theorem rulS_made {p : ProgT} {px : ByteArray} {op : List ByteArray} {used : List D2} (d : D2) : ∀ (ls : List LitT) (s : List LitT × List ByteArray × List RuleT),
    (∀ l ∈ ls, (l.k ≠ 2 ∧ l.k ≠ 5) ∧ (l.k = 1 → derB p l.a.p = true → inS op l.a.p = true)) →
    s.1.length + ls.length ≤ 1000 → (∀ l ∈ s.1, badL p px l = false) → (∀ x ∈ s.2.2, Made p px x) → (ls.foldl (rulS px op used) s).1.length ≤ 1000 ∧ (∀ l ∈ (ls.foldl (rulS px op used) s).1, badL p px l = false) ∧ ∀ x ∈ (ls.foldl (rulS px op used) s).2.2, Made p px x
  | [], s, _, h0, h1, h2 => ⟨by simpa using h0, h1, h2⟩
  | l :: ls, s, hl, h0, h1, h2 => by
    rw [List.foldl_cons]
    have hl0 := hl l (List.mem_cons_self ..)
    rw [List.length_cons] at h0
    refine rulS_made d ls _ (fun x hx => hl x (List.mem_cons_of_mem _ hx)) ?_ ?_ ?_
    · unfold rulS
      split <;> simp only [List.length_append, List.length_singleton] <;> omega
    · unfold rulS
      split
      · intro x hx
        rcases List.mem_append.1 hx with hx | hx
        · exact h1 x hx
        · rw [List.mem_singleton] at hx
          subst hx
          simp [badL, holdsT, pre_found]
      · rename_i hc
        intro x hx
        rcases List.mem_append.1 hx with hx | hx
        · exact h1 x hx
        · rw [List.mem_singleton] at hx
          subst hx
          unfold badL
          simp only [hl0.1.1, hl0.1.2, decide_false, Bool.false_or]
          cases hd : derB p x.a.p
          · simp
          · by_cases hk : x.k = 1
            · exfalso
              exact hc (by rw [hl0.2 hk hd]; simp [hk])
            · simp [hk]
    · unfold rulS
      split
      · intro x hx
        rcases List.mem_append.1 hx with hx | hx
        · exact h2 x hx
        · rw [List.mem_singleton] at hx
          subst hx
          exact ⟨pre_ask _ _, rfl, h1, by simp only; omega⟩
      · exact h2
theorem rulesT_made {p : ProgT} {px : ByteArray} {op : List ByteArray} {used : List D2} {x : RuleT} {d : D2} (hb : x.body.length ≤ 900) (hl : ∀ l ∈ x.body, (l.k ≠ 2 ∧ l.k ≠ 5) ∧ (l.k = 1 → derB p l.a.p = true → inS op l.a.p = true)) : ∀ y ∈ rulesT px op used x d, Made p px y := by
  obtain ⟨h0, h1, h2⟩ := rulS_made (p := p) (px := px) (op := op) (used := used) d x.body (rul0 px x d) hl (by
    have : (rul0 px x d).1.length = 1 := rfl
    omega) (fun l hl => by
    have : l = guardT px x d := List.mem_singleton.1 hl
    subst this
    simp [badL, guardT, holdsT, pre_ask]) (fun y hy => by cases hy)
  unfold rulesT
  intro y hy
  rcases List.mem_append.1 hy with hy | hy
  · exact h2 y hy
  · rw [List.mem_singleton] at hy
    subst hy
    exact ⟨pre_found _ _, rfl, h1, h0⟩
theorem mem_inS {l : List ByteArray} {s : ByteArray} (h : s ∈ l) : inS l s = true := by
  unfold inS
  simpa using h
def madeR (px : ByteArray) (op : List ByteArray) (used : List D2) (p : ProgT) : List RuleT := ask0 px used p :: used.flatMap (dmR px op used p)
theorem rewT_rules (px : ByteArray) (op : List ByteArray) (used : List D2) (p : ProgT) : (rewT px op used p).rules = madeR px op used p ++ baseR p := rfl
theorem madeR_all {p : ProgT} {D : List D2} (hb : ∀ r ∈ p.rules, r.body.length ≤ 900) (hI : DemI p (openT p) D) (prune : Bool) : ∀ x ∈ madeR (pfxT p) (openT p) (usedT prune D) p, Made p (pfxT p) x := by
  intro x hx
  rcases List.mem_cons.1 hx with rfl | hx
  · exact ⟨pre_ask _ _, rfl, (fun l hl => by cases hl), Nat.zero_le _⟩
  · obtain ⟨d, hd, hx⟩ := List.mem_flatMap.1 hx
    unfold dmR at hx
    obtain ⟨r, hr, hx⟩ := List.mem_flatMap.1 hx
    obtain ⟨hr, he⟩ := List.mem_filter.1 hr
    rw [decide_eq_true_eq] at he
    have ho := inS_mem (hI.pred d (usedT_mem hd))
    exact rulesT_made (hb r hr) (fun l hl => ⟨(open_head ho hr he).2 l hl, fun hk hdr => mem_inS (open_step ho hr he hl hk rfl hdr)⟩) x hx
theorem baseR_no {p : ProgT} : ∀ x ∈ baseR p, preB x.head.p (pfxT p) = false := fun x hx => pfx_no (head_named (List.mem_filter.1 hx).1)
end Go.Proofs.YtpgipdajinkdgaaGreatA

namespace Go.Proofs.YtpgipdajinkdgaaGreatA
open Go Go.RowKit
set_option linter.all false
set_option linter.unusedSectionVars false
set_option linter.constructorNameAsVariable false
set_option linter.unusedVariables false
set_option linter.unusedSimpArgs false
theorem ours_run (s px : ByteArray) (k : Nat) (hk : 1 ≤ k) : val Tryz.prog cf k 18 [.sc (.string s), .ro [.sc (.string px)]] = some (.sc (.bool (preB s px))) := by
  obtain ⟨k, rfl⟩ : ∃ j, k = j + 1 := ⟨k - 1, by omega⟩
  refine val_of (r := .sc (.bool (preB s px))) (H1 := []) ?_ rfl rfl
  rw [arun_body rfl rfl Tryz.func18 rfl (N := 17) rfl]
  unfold preB
  have e1 : ((px.size : Int) ≤ (s.size : Int)) = (px.size ≤ s.size) := propext (by omega)
  by_cases h : px.size ≤ s.size
  · have hx : bnd (some (AV.sc (.int .i64 (px.size : Nat)))) s.size s.size = some px.size := by
      simp [bnd, aint]
      omega
    simp only [R0, RC, zipEnv, Nat.reduceLT, Nat.reduceAdd, Nat.reduceEqDiff, Nat.reduceLeDiff, reduceCtorEq, ↓reduceIte, ares, aresult, pr, Int.reduceEq, Int.reduceLT, Int.reduceLE, Nat.reduceSub, Nat.reduceMul, aFieldAddr, aField, aLoad, aStore, aExtract, aBox, aint, rdVar, rdCells, Value.oneCell', splice, Int.reduceNeg, zvar1, chunks, depth, some_map, Nat.reduceBEq, cf_dyn, okU, Tryz.f18, rf18, e1, h, slStr, hx]
  · simp only [R0, RC, zipEnv, Nat.reduceLT, Nat.reduceAdd, Nat.reduceEqDiff, Nat.reduceLeDiff, reduceCtorEq, ↓reduceIte, ares, aresult, pr, Int.reduceEq, Int.reduceLT, Int.reduceLE, Nat.reduceSub, Nat.reduceMul, aFieldAddr, aField, aLoad, aStore, aExtract, aBox, aint, rdVar, rdCells, Value.oneCell', splice, Int.reduceNeg, zvar1, chunks, depth, some_map, Nat.reduceBEq, cf_dyn, okU, Tryz.f18, rf18, e1, h]
theorem derived_run (p : ProgT) (s : ByteArray) (hl : p.rules.length ≤ 1000) (hb : ∀ r ∈ p.rules, r.body.length ≤ 1000) (k : Nat) (hk : 1002 ≤ k) : val Tryz.prog cf k 19 [.agg p.c, .sc (.string s)] = some (.sc (.bool (derB p s))) := by
  obtain ⟨k, rfl⟩ : ∃ j, k = j + 1 := ⟨k - 1, by omega⟩
  have hw := wraps (n := p.rules.length) (by omega)
  have c0 : ∀ n : Nat, ((0 : Int) < (n : Int)) = (0 < n) := fun n => propext (by omega)
  have key : ∃ H', arun Tryz.prog cf (k + 1) 19 [.agg p.c, .sc (.string s)] [] = some (.sc (.bool (derB p s)), H') := by
    rw [arun_body rfl rfl Tryz.func19 rfl (N := 32) rfl]
    simp only [R0, RC, zipEnv, Nat.reduceLT, Nat.reduceAdd, Nat.reduceEqDiff, Nat.reduceLeDiff, reduceCtorEq, ↓reduceIte, ares, aresult, pr, Int.reduceEq, Int.reduceLT, Int.reduceLE, Nat.reduceSub, Nat.reduceMul, aFieldAddr, aField, aLoad, aStore, aExtract, aBox, aint, rdVar, rdCells, Value.oneCell', splice, Int.reduceNeg, zvar1, chunks, depth, some_map, Nat.reduceBEq, cf_dyn, okU, Tryz.f19, rf19, ProgT.c]
    generalize hA : aloop _ _ _ _ _ _ _ _ _ _ _ = A
    unfold derB
    rw [any_find]
    rcases aloop_list hA [1, 2, 8, 9] (fun j => ⟨[(1, .sc (.string s)), (2, .ro [mkL 4 (p.rules.map RuleT.c), .sc (.string p.query.p), mkL 4 (p.query.args.map TermT.c)]), (8, .sc (.int .i64 p.rules.length)), (9, .sc (.int .i64 (j : Nat)))], []⟩) p.rules (derQ s) (by omega) rfl (by simp only [R0, RC, zipEnv, Nat.reduceLT, Nat.reduceAdd, Nat.reduceEqDiff, Nat.reduceLeDiff, reduceCtorEq, ↓reduceIte, ares, aresult, pr, Int.reduceEq, Int.reduceLT, Int.reduceLE, Nat.reduceSub, Nat.reduceMul, aFieldAddr, aField, aLoad, aStore, aExtract, aBox, aint, rdVar, rdCells, Value.oneCell', splice, Int.reduceNeg, zvar1, chunks, depth, some_map, Nat.reduceBEq, cf_dyn, okU, Tryz.f19, rf19]; try rfl) (fun j x hj hx hq => by
      by_cases h1 : x.head.p = s
      · by_cases h2 : 0 < x.body.length
        · exfalso
          unfold derQ at hq
          simp [h1, h2] at hq
        · simp only [R0, RC, zipEnv, Nat.reduceLT, Nat.reduceAdd, Nat.reduceEqDiff, Nat.reduceLeDiff, reduceCtorEq, ↓reduceIte, ares, aresult, pr, Int.reduceEq, Int.reduceLT, Int.reduceLE, Nat.reduceSub, Nat.reduceMul, aFieldAddr, aField, aLoad, aStore, aExtract, aBox, aint, rdVar, rdCells, Value.oneCell', splice, Int.reduceNeg, zvar1, chunks, depth, some_map, Nat.reduceBEq, cf_dyn, okU, Tryz.f19, rf19, RuleT.c, c0, hj, hx, hw j hj, h1, h2]
      · simp only [R0, RC, zipEnv, Nat.reduceLT, Nat.reduceAdd, Nat.reduceEqDiff, Nat.reduceLeDiff, reduceCtorEq, ↓reduceIte, ares, aresult, pr, Int.reduceEq, Int.reduceLT, Int.reduceLE, Nat.reduceSub, Nat.reduceMul, aFieldAddr, aField, aLoad, aStore, aExtract, aBox, aint, rdVar, rdCells, Value.oneCell', splice, Int.reduceNeg, zvar1, chunks, depth, some_map, Nat.reduceBEq, cf_dyn, okU, Tryz.f19, rf19, RuleT.c, c0, hj, hx, hw j hj, h1]) (fun j x hj hx hq => by
      unfold derQ at hq
      simp only [Bool.and_eq_true, decide_eq_true_eq] at hq
      simp only [R0, RC, zipEnv, Nat.reduceLT, Nat.reduceAdd, Nat.reduceEqDiff, Nat.reduceLeDiff, reduceCtorEq, ↓reduceIte, ares, aresult, pr, Int.reduceEq, Int.reduceLT, Int.reduceLE, Nat.reduceSub, Nat.reduceMul, aFieldAddr, aField, aLoad, aStore, aExtract, aBox, aint, rdVar, rdCells, Value.oneCell', splice, Int.reduceNeg, zvar1, chunks, depth, some_map, Nat.reduceBEq, cf_dyn, okU, Tryz.f19, rf19, RuleT.c, c0, hj, hx, hw j hj, hq.1, hq.2]
      try rfl) (by simp only [R0, RC, zipEnv, Nat.reduceLT, Nat.reduceAdd, Nat.reduceEqDiff, Nat.reduceLeDiff, reduceCtorEq, ↓reduceIte, ares, aresult, pr, Int.reduceEq, Int.reduceLT, Int.reduceLE, Nat.reduceSub, Nat.reduceMul, aFieldAddr, aField, aLoad, aStore, aExtract, aBox, aint, rdVar, rdCells, Value.oneCell', splice, Int.reduceNeg, zvar1, chunks, depth, some_map, Nat.reduceBEq, cf_dyn, okU, Tryz.f19, rf19]; try rfl) with ⟨h, e⟩ | ⟨j, x, hj, hx, hq, h, e⟩
    · rw [e, h]
      exact ⟨_, by simp only [R0, RC, zipEnv, Nat.reduceLT, Nat.reduceAdd, Nat.reduceEqDiff, Nat.reduceLeDiff, reduceCtorEq, ↓reduceIte, ares, aresult, pr, Int.reduceEq, Int.reduceLT, Int.reduceLE, Nat.reduceSub, Nat.reduceMul, aFieldAddr, aField, aLoad, aStore, aExtract, aBox, aint, rdVar, rdCells, Value.oneCell', splice, Int.reduceNeg, zvar1, chunks, depth, some_map, Nat.reduceBEq, cf_dyn, okU, Tryz.f19, rf19]; rfl⟩
    · unfold derQ at hq
      simp only [Bool.and_eq_true, decide_eq_true_eq] at hq
      rw [e, h]
      exact ⟨_, by simp only [R0, RC, zipEnv, Nat.reduceLT, Nat.reduceAdd, Nat.reduceEqDiff, Nat.reduceLeDiff, reduceCtorEq, ↓reduceIte, ares, aresult, pr, Int.reduceEq, Int.reduceLT, Int.reduceLE, Nat.reduceSub, Nat.reduceMul, aFieldAddr, aField, aLoad, aStore, aExtract, aBox, aint, rdVar, rdCells, Value.oneCell', splice, Int.reduceNeg, zvar1, chunks, depth, some_map, Nat.reduceBEq, cf_dyn, okU, Tryz.f19, rf19, RuleT.c, c0, hj, hx, hw j hj, hq.1, hq.2]; rfl⟩
  obtain ⟨H', e⟩ := key
  exact val_of e rfl rfl
end Go.Proofs.YtpgipdajinkdgaaGreatA
