/- comps.lists, comps.held. -/
import Derived.Test.YtpgipdajinkdgaaGreatN8
namespace Go.Proofs.YtpgipdajinkdgaaGreatA
open Go Go.RowKit
set_option linter.all false
set_option linter.unusedSectionVars false
set_option linter.constructorNameAsVariable false
set_option linter.unusedVariables false
set_option linter.unusedSimpArgs false
def adjN (E : List (Nat × Nat)) (i : Nat) : List Nat := (E.filter fun x => decide (x.1 = i)).map (·.2)
abbrev nRows (l : List Nat) : List (List AV) := l.map fun x => [.sc (.int .i64 (x : Nat))]
theorem nRows_row {l : List Nat} : ∀ r ∈ nRows l, r.length = 1 := fun r hr => by
  obtain ⟨s, _, rfl⟩ := List.mem_map.1 hr
  rfl
theorem nRows_stay {l : List Nat} : ∀ r ∈ nRows l, ∀ x ∈ r, Stays x ∧ ∃ u, x = .sc u := fun r hr x hx => by
  obtain ⟨s, _, rfl⟩ := List.mem_map.1 hr
  simp only [List.mem_singleton] at hx
  subst hx
  exact ⟨stays_int, _, rfl⟩
def toI2 (x : Nat × Nat) : I2 := ((x.1 : Int), (x.2 : Int))
theorem held_run (n : Nat) (hn : n ≤ 1000) (k : Nat) (hk : 1 ≤ k) : val Tryz.prog cf k 87 [.sc (.int .i64 (n : Nat))] = some (.sc (.int .i64 (n : Nat))) := by
  obtain ⟨k, rfl⟩ : ∃ j, k = j + 1 := ⟨k - 1, by omega⟩
  refine val_of (r := .sc (.int .i64 (n : Nat))) (H1 := []) ?_ rfl rfl
  rw [arun_body rfl rfl Tryz.func87 rfl (N := 6) rfl]
  have h1 : ((1000 : Int) < (n : Int)) = False := by simp; omega
  have h2 : (if (0 : Int) < (n : Int) then (n : Int) else 0) = n := by split <;> omega
  simp only [R0, RC, zipEnv, Nat.reduceLT, Nat.reduceAdd, Nat.reduceEqDiff, Nat.reduceLeDiff, reduceCtorEq, ↓reduceIte, ares, aresult, pr, Int.reduceEq, Int.reduceLT, Int.reduceLE, Nat.reduceSub, Nat.reduceMul, aFieldAddr, aField, aLoad, aStore, aExtract, aBox, aint, rdVar, rdCells, Value.oneCell', splice, Int.reduceNeg, zvar1, chunks, depth, some_map, Nat.reduceBEq, cf_dyn, okU, Tryz.f87, rf87, h1, h2]
structure AdjAt (H : List Blk) (n : Nat) (A : Nat → List Nat) (vs : List AV) : Prop where
  len : vs.length = n
  top : H[0]? = some ⟨85, 1, 0, true, vs, .cells⟩
  out : ∀ (i : Nat) (v : AV), vs[i]? = some v → OutAt 3 1 H v (nRows (A i))
  pos : ∀ (i : Nat) (v : AV) b o l s ver, vs[i]? = some v → v = AV.own b o l s ver → b ≠ 0
  sep : ∀ (i j : Nat) (v w : AV) b o l s ver o' l' s' ver', i ≠ j → vs[i]? = some v → vs[j]? = some w → v = AV.own b o l s ver → w = AV.own b o' l' s' ver' → False
theorem flat_one (vs : List AV) : (vs.map fun v => [v]).flatten = vs := by
  induction vs with
  | nil => rfl
  | cons v vs ih => simp [ih]
theorem out_own {e : TypeId} {H : List Blk} {v : AV} {rows : List (List AV)} (h : OutAt e 1 H v rows) : solid v = true ∧ acells v = [v] ∧ one v = true := by
  rcases h with ⟨_, rfl⟩ | ⟨_, b, ver, rfl, _⟩ <;> exact ⟨rfl, rfl, rfl⟩
theorem out_keep {e : TypeId} {H H' : List Blk} {v : AV} {rows : List (List AV)} (h : OutAt e 1 H v rows) (hk : ∀ b o l s ver, v = .own b o l s ver → H'[b]? = H[b]?) : OutAt e 1 H' v rows := by
  rcases h with ⟨h1, h2⟩ | ⟨h1, b, ver, rfl, h2⟩
  · exact .inl ⟨h1, h2⟩
  · exact .inr ⟨h1, b, ver, rfl, by rw [hk b _ _ _ _ rfl]; exact h2⟩
theorem adj_app {H : List Blk} {n : Nat} {A : Nat → List Nat} {vs : List AV} (h : AdjAt H n A vs) {a b : Nat} (ha : a < n) (hl : (A a).length ≤ 1000000) : ∃ v v' H', vs[a]? = some v ∧ H[0]? = some ⟨85, 1, 0, true, vs, .cells⟩ ∧
    outH H (aappend Tryz.prog H 85 v (mkL 1 [[.sc (.int .i64 (b : Nat))]])) = some (v', H') ∧ H'[0]? = some ⟨85, 1, 0, true, vs, .cells⟩ ∧ solid v' = true ∧ acells v' = [v'] ∧ one v' = true ∧
    AdjAt (H'.set 0 ⟨85, 1, 0, true, vs.set a v', .cells⟩) n (fun i => if i = a then A a ++ [b] else A i) (vs.set a v') := by
  have hav : a < vs.length := by rw [h.len]; exact ha
  obtain ⟨v, hv⟩ : ∃ v, v = vs[a] := ⟨_, rfl⟩
  have hv' : vs[a]? = some v := by rw [hv]; exact List.getElem?_eq_getElem hav
  have ho := h.out a v hv'
  have hm : ∀ r ∈ [[AV.sc (.int .i64 (b : Nat))]], r.length = 1 ∧ r.all one = true := fun r hr => by
    rw [List.mem_singleton] at hr
    subst hr
    exact ⟨rfl, rfl⟩
  have hH0 : 0 < H.length := by
    rcases Nat.eq_zero_or_pos H.length with h0 | h0
    · have := h.top; rw [List.getElem?_eq_none (by omega)] at this; cases this
    · exact h0
  -- what the append does
  have key : ∃ v' H', outH H (aappend Tryz.prog H 85 v (mkL 1 [[.sc (.int .i64 (b : Nat))]])) = some (v', H') ∧ OutAt 3 1 H' v' (nRows (A a ++ [b])) ∧ H.length ≤ H'.length ∧
      (∀ c, c < H.length → (∀ o l s ver, v ≠ .own c o l s ver) → H'[c]? = H[c]?) ∧ (∀ c o l s ver, v' = .own c o l s ver → (∃ o l s ver, v = .own c o l s ver) ∨ H.length ≤ c) := by
    have hrow : nRows (A a ++ [b]) = nRows (A a) ++ [[.sc (.int .i64 (b : Nat))]] := by simp [nRows]
    rw [hrow]
    rcases ho with ⟨h0, e0⟩ | ⟨hne, c, ver, e0, hc⟩
    · have ha' := acc1 (P := Tryz.prog) (H := H) (rows := []) (r := [.sc (.int .i64 (b : Nat))]) ro85 (fun _ h => by cases h) rfl rfl (by decide) (by decide)
      simp only [accV_nil, accB_nil, List.append_nil, List.nil_append] at ha'
      rw [e0, h0]
      refine ⟨_, _, ha', acc_out, by simp, fun c hc _ => by rw [List.getElem?_append_left hc], fun c o l s ver e => .inr ?_⟩
      simp only [accV, reduceCtorEq, if_false, List.cons_ne_self] at e
      injection e with e1
      omega
    · have hb := app_o (P := Tryz.prog) (H := H) (b := c) (ver := ver) (rows := nRows (A a)) (more := [[.sc (.int .i64 (b : Nat))]]) ro85 hc nRows_row (by simp) (fun r hr => (hm r hr).2) (by simp; omega) (by simp [maxLen]; omega)
      have hcl : c < H.length := (List.getElem?_eq_some_iff.1 hc).1
      rw [e0, hb]
      refine ⟨_, _, rfl, .inr ⟨by simp, c, ver + 1, by simp, ?_⟩, by simp, fun d hd hn => ?_, fun d o l s w e => ?_⟩
      · rw [List.getElem?_set_self hcl]
        simp
      · rw [List.getElem?_set_ne]
        rintro rfl
        exact hn _ _ _ _ rfl
      · injection e with e1
        subst e1
        exact .inl ⟨_, _, _, _, rfl⟩
  obtain ⟨v', H', e1, o1, l1, k1, s1⟩ := key
  have hv0 : ∀ o l s ver, v ≠ .own 0 o l s ver := fun o l s ver e => h.pos a v 0 o l s ver hv' e rfl
  have hv'0 : ∀ c o l s ver, v' = .own c o l s ver → c ≠ 0 := fun c o l s ver e hc => by
    subst hc
    rcases s1 0 o l s ver e with ⟨o', l', s', ver', e'⟩ | h'
    · exact hv0 _ _ _ _ e'
    · omega
  obtain ⟨p1, p2, p3⟩ := out_own o1
  refine ⟨v, v', H', hv', h.top, e1, by rw [k1 0 hH0 hv0]; exact h.top, p1, p2, p3, ?_, ?_, ?_, ?_, ?_⟩
  · rw [List.length_set]; exact h.len
  · rw [List.getElem?_set_self (by omega)]
  · intro i w hi
    by_cases hia : i = a
    · subst hia
      rw [List.getElem?_set_self hav] at hi
      cases hi
      rw [if_pos rfl]
      exact out_keep o1 (fun c o l s ver e => by rw [List.getElem?_set_ne (fun hc => hv'0 c o l s ver e hc.symm)])
    · rw [List.getElem?_set_ne (fun e => hia e.symm)] at hi
      rw [if_neg hia]
      refine out_keep (h.out i w hi) (fun c o l s ver e => ?_)
      have hc0 := h.pos i w c o l s ver hi e
      rw [List.getElem?_set_ne (fun hc => hc0 hc.symm)]
      have hcl : c < H.length := by
        rcases h.out i w hi with ⟨_, e'⟩ | ⟨_, c', ver', e', hc'⟩
        · rw [e'] at e; cases e
        · rw [e'] at e
          injection e with e2
          subst e2
          exact (List.getElem?_eq_some_iff.1 hc').1
      exact k1 c hcl (fun o' l' s' ver' e' => h.sep i a w v c o l s ver o' l' s' ver' hia hi hv' e e')
  · intro i w c o l s ver hi e
    by_cases hia : i = a
    · subst hia
      rw [List.getElem?_set_self hav] at hi
      cases hi
      exact hv'0 c o l s ver e
    · rw [List.getElem?_set_ne (fun e => hia e.symm)] at hi
      exact h.pos i w c o l s ver hi e
  · have hfresh : ∀ i w c o l s ver o' l' s' ver', i ≠ a → vs[i]? = some w → w = .own c o l s ver → v' = .own c o' l' s' ver' → False := by
      intro i w c o l s ver o' l' s' ver' hia hi e e'
      rcases s1 c o' l' s' ver' e' with ⟨o2, l2, s2, ver2, e2⟩ | h'
      · exact h.sep i a w v c o l s ver o2 l2 s2 ver2 hia hi hv' e e2
      · rcases h.out i w hi with ⟨_, e3⟩ | ⟨_, c3, ver3, e3, hc3⟩
        · rw [e3] at e; cases e
        · rw [e3] at e
          injection e with e4
          subst e4
          have := (List.getElem?_eq_some_iff.1 hc3).1
          omega
    intro i j w x c o l s ver o' l' s' ver' hij hi hj e e'
    by_cases hia : i = a
    · subst hia
      rw [List.getElem?_set_self hav] at hi
      cases hi
      rw [List.getElem?_set_ne hij] at hj
      exact hfresh j x c o' l' s' ver' o l s ver (fun h => hij h.symm) hj e' e
    · rw [List.getElem?_set_ne (fun e => hia e.symm)] at hi
      by_cases hja : j = a
      · subst hja
        rw [List.getElem?_set_self hav] at hj
        cases hj
        exact hfresh i w c o l s ver o' l' s' ver' hia hi e e'
      · rw [List.getElem?_set_ne (fun e => hja e.symm)] at hj
        exact h.sep i j w x c o l s ver o' l' s' ver' hij hi hj e e'
theorem adj_rb {H : List Blk} {n : Nat} {A : Nat → List Nat} {vs : List AV} (h : AdjAt H n A vs) : rb H depth (.own 0 0 n 1 0) = some (mkL 1 ((List.range n).map fun i => [mkL 1 (nRows (A i))])) := by
  have e : depth = 39 + 1 := rfl
  rw [e, rb_ownC, blkR_some' h.top rfl rfl]
  simp only [Nat.zero_mul, Nat.mul_one, rdCells]
  rw [if_pos (by rw [h.len]; omega), List.drop_zero, List.take_of_length_le (by rw [h.len]; exact Nat.le_refl _)]
  have key : ∀ (l : List AV) (f : Nat → List Nat), (∀ i v, l[i]? = some v → OutAt 3 1 H v (nRows (f i))) → amap (rb H 39) l = some ((List.range l.length).map fun i => mkL 1 (nRows (f i))) := by
    intro l
    induction l with
    | nil => intro f _; rfl
    | cons v l ih =>
      intro f hf
      have h0 := rb_out (k := 37) (hf 0 v rfl) nRows_row (fun r hr x hx => (nRows_stay r hr x hx).1)
      have h1 := ih (fun i => f (i + 1)) (fun i w hw => hf (i + 1) w (by simpa using hw))
      have e39 : (39 : Nat) = 37 + 2 := rfl
      rw [e39] at h1 ⊢
      simp only [amap, h0, h1, List.length_cons, List.range_succ_eq_map, List.map_cons, List.map_map]
      rfl
  simp only []
  rw [key vs A h.out, h.len]
  simp only [Option.map_some]
  have hc : chunks 1 n ((List.range n).map fun i => mkL 1 (nRows (A i))) = (List.range n).map fun i => [mkL 1 (nRows (A i))] := by
    have := chunks_flat' (sz := 1) (rows := (List.range n).map fun i => [mkL 1 (nRows (A i))]) (fun r hr => by
      obtain ⟨_, _, rfl⟩ := List.mem_map.1 hr
      rfl)
    rw [List.length_map, List.length_range] at this
    rw [← this]
    congr 1
    rw [← flat_one ((List.range n).map fun i => mkL 1 (nRows (A i))), List.map_map]
    rfl
  rw [hc]
theorem adjN_len (E : List (Nat × Nat)) (i : Nat) : (adjN E i).length ≤ E.length := by
  unfold adjN
  rw [List.length_map]
  exact List.length_filter_le _ _
theorem adjN_take {E : List (Nat × Nat)} {j : Nat} {x : Nat × Nat} (h : E[j]? = some x) : adjN (E.take (j + 1)) = fun i => if i = x.1 then adjN (E.take j) x.1 ++ [x.2] else adjN (E.take j) i := by
  obtain ⟨hj, rfl⟩ := List.getElem?_eq_some_iff.1 h
  funext i
  unfold adjN
  rw [List.take_succ_eq_append_getElem hj, List.filter_append, List.map_append]
  by_cases hi : i = (E[j]).1
  · subst hi
    simp
  · rw [if_neg hi]
    have hi' : ¬ (E[j]).1 = i := fun e => hi e.symm
    simp [hi']
theorem lists_run (n : Nat) (E : List (Nat × Nat)) (hn : n ≤ 1000) (hl : E.length ≤ 100000) (hE : ∀ x ∈ E, x.1 < n ∧ x.2 < n) (k : Nat) (hk : 100010 ≤ k) :
    valD Tryz.prog cf k 86 [.sc (.int .i64 (n : Nat)), mkL 2 (pRows (E.map toI2)), .sc (.bool false)] = some (mkL 1 ((List.range n).map fun i => [mkL 1 (nRows (adjN E i))])) := by
  obtain ⟨k, rfl⟩ : ∃ j, k = j + 1 := ⟨k - 1, by omega⟩
  have key : ∃ H' vs, arun Tryz.prog cf (k + 1) 86 [.sc (.int .i64 (n : Nat)), mkL 2 (pRows (E.map toI2)), .sc (.bool false)] [] = some (.own 0 0 n 1 0, H') ∧ AdjAt H' n (adjN E) vs := by
    rw [arun_body rfl rfl Tryz.func86 rfl (N := 50) rfl]
    have hw := wraps (n := E.length) (by omega)
    have b1 : n * 24 ≤ 140737488355328 := by omega
    have b2 : n ≤ maxLen := by unfold maxLen; omega
    simp only [R0, RC, zipEnv, Nat.reduceLT, Nat.reduceAdd, Nat.reduceEqDiff, Nat.reduceLeDiff, reduceCtorEq, ↓reduceIte, ares, aresult, pr, Int.reduceEq, Int.reduceLT, Int.reduceLE, Nat.reduceSub, Nat.reduceMul, aFieldAddr, aField, aLoad, aStore, aExtract, aBox, aint, rdVar, rdCells, Value.oneCell', splice, Int.reduceNeg, zvar1, chunks, depth, some_map, Nat.reduceBEq, cf_dyn, okU, Tryz.f86, rf86, b1, b2]
    generalize hA : aloop _ _ _ _ _ _ _ _ _ _ _ = A
    obtain ⟨s, ⟨vs, H', rfl, hadj⟩, e1⟩ := aloop_inv2 hA [0, 2, 7, 14, 15, 16] (fun j s => ∃ vs H', s = ⟨[(0, .sc (.int .i64 (n : Nat))), (2, .sc (.bool false)), (7, .own 0 0 n 1 0), (14, mkL 2 (pRows (E.map toI2))), (15, .sc (.int .i64 E.length)), (16, .sc (.int .i64 (j : Nat)))], H'⟩ ∧ AdjAt H' n (adjN (E.take j)) vs) E.length (by omega) rfl
      ⟨(List.replicate n [AV.sc (.slice none 0 0)]).flatten, [⟨85, 1, 0, true, (List.replicate n [AV.sc (.slice none 0 0)]).flatten, .cells⟩], by simp only [R0, RC, zipEnv, Nat.reduceLT, Nat.reduceAdd, Nat.reduceEqDiff, Nat.reduceLeDiff, reduceCtorEq, ↓reduceIte, ares, aresult, pr, Int.reduceEq, Int.reduceLT, Int.reduceLE, Nat.reduceSub, Nat.reduceMul, aFieldAddr, aField, aLoad, aStore, aExtract, aBox, aint, rdVar, rdCells, Value.oneCell', splice, Int.reduceNeg, zvar1, chunks, depth, some_map, Nat.reduceBEq, cf_dyn, okU, Tryz.f86, rf86]; rfl, ⟨by
        simp only [List.length_flatten, List.map_replicate, List.sum_replicate_nat, List.length_cons, List.length_nil]; omega, rfl, fun i v hv => .inl ⟨rfl, by
        have hm := List.mem_of_getElem? hv
        simp only [List.mem_flatten, List.mem_replicate] at hm
        obtain ⟨r, ⟨_, rfl⟩, hr⟩ := hm
        simpa using hr⟩, fun i v b o l s ver hv e => by
        have hm := List.mem_of_getElem? hv
        simp only [List.mem_flatten, List.mem_replicate] at hm
        obtain ⟨r, ⟨_, rfl⟩, hr⟩ := hm
        rw [e] at hr
        simp at hr, fun i j v w b o l s ver o' l' s' ver' _ hv _ e _ => by
        have hm := List.mem_of_getElem? hv
        simp only [List.mem_flatten, List.mem_replicate] at hm
        obtain ⟨r, ⟨_, rfl⟩, hr⟩ := hm
        rw [e] at hr
        simp at hr⟩⟩
      (fun j hj s ⟨vs, H', hs, hadj⟩ => by
        subst hs
        obtain ⟨x, hx⟩ : ∃ x, x = E[j] := ⟨_, rfl⟩
        have xj : E[j]? = some x := by rw [hx]; exact List.getElem?_eq_getElem hj
        have hxm : x ∈ E := by rw [hx]; exact List.getElem_mem hj
        obtain ⟨hx1, hx2⟩ := hE x hxm
        have hlen := adjN_len (E.take j) x.1
        rw [List.length_take] at hlen
        obtain ⟨v, v', H2, q1, q2, q3, q4, q5, q6, q7, q8⟩ := adj_app hadj (b := x.2) hx1 (by omega)
        have m1 : ((0 : Int) ≤ (if x.2 < x.1 then (x.2 : Int) else (x.1 : Int))) = True := by simp; split <;> omega
        have m2 : ((if x.1 < x.2 then (x.2 : Int) else (x.1 : Int)) < (n : Int)) = True := by simp; split <;> omega
        have hsp : splice vs x.1 [v'] = vs.set x.1 v' := by
          unfold splice
          rw [List.set_eq_take_append_cons_drop, if_pos (by rw [hadj.len]; exact hx1)]
          simp
        have hvl : x.1 + 1 ≤ vs.length := by rw [hadj.len]; exact hx1
        have hr := adjN_take xj
        refine ⟨_, by
          simp only [R0, RC, zipEnv, Nat.reduceLT, Nat.reduceAdd, Nat.reduceEqDiff, Nat.reduceLeDiff, reduceCtorEq, ↓reduceIte, ares, aresult, pr, Int.reduceEq, Int.reduceLT, Int.reduceLE, Nat.reduceSub, Nat.reduceMul, aFieldAddr, aField, aLoad, aStore, aExtract, aBox, aint, rdVar, rdCells, Value.oneCell', Int.reduceNeg, zvar1, chunks, depth, some_map, Nat.reduceBEq, cf_dyn, okU, Tryz.f86, rf86, pC, toI2, hj, xj, hw j hj, m1, m2, q2, hx1, q1, q3, q4, q5, q6, q7, hvl, hsp]
          rfl, _, _, rfl, by rw [hr]; exact q8⟩)
      (fun s ⟨vs, H', hs, hadj⟩ => by
        subst hs
        simp only [R0, RC, zipEnv, Nat.reduceLT, Nat.reduceAdd, Nat.reduceEqDiff, Nat.reduceLeDiff, reduceCtorEq, ↓reduceIte, ares, aresult, pr, Int.reduceEq, Int.reduceLT, Int.reduceLE, Nat.reduceSub, Nat.reduceMul, aFieldAddr, aField, aLoad, aStore, aExtract, aBox, aint, rdVar, rdCells, Value.oneCell', splice, Int.reduceNeg, zvar1, chunks, depth, some_map, Nat.reduceBEq, cf_dyn, okU, Tryz.f86, rf86])
    rw [e1]
    rw [List.take_length] at hadj
    exact ⟨H', vs, by simp only [R0, RC, zipEnv, Nat.reduceLT, Nat.reduceAdd, Nat.reduceEqDiff, Nat.reduceLeDiff, reduceCtorEq, ↓reduceIte, ares, aresult, pr, Int.reduceEq, Int.reduceLT, Int.reduceLE, Nat.reduceSub, Nat.reduceMul, aFieldAddr, aField, aLoad, aStore, aExtract, aBox, aint, rdVar, rdCells, Value.oneCell', splice, Int.reduceNeg, zvar1, chunks, depth, some_map, Nat.reduceBEq, cf_dyn, okU, Tryz.f86, rf86], hadj⟩
  obtain ⟨H', vs, e, h⟩ := key
  exact valD_of e (adj_rb h)
end Go.Proofs.YtpgipdajinkdgaaGreatA

namespace Go.Proofs.YtpgipdajinkdgaaGreatA
open Go Go.RowKit
set_option linter.all false
set_option linter.unusedSectionVars false
set_option linter.constructorNameAsVariable false
set_option linter.unusedVariables false
set_option linter.unusedSimpArgs false
inductive Rch (A : Nat → List Nat) (a : Nat) : Nat → Prop
  | refl : Rch A a a
  | step {b c : Nat} : Rch A a b → c ∈ A b → Rch A a c
def isM (M : List Bool) (v : Nat) : Prop := M[v]? = some true
def markS (x : List Bool × List Nat) (c : Nat) : List Bool × List Nat := if x.1[c]? = some true then x else (x.1.set c true, x.2 ++ [c])
theorem markS_len (x : List Bool × List Nat) (c : Nat) : (markS x c).1.length = x.1.length := by
  unfold markS
  split <;> simp
theorem markF_len : ∀ (l : List Nat) (x : List Bool × List Nat), (l.foldl markS x).1.length = x.1.length
  | [], _ => rfl
  | c :: l, x => by rw [List.foldl_cons, markF_len l, markS_len]
theorem count_set {M : List Bool} {c : Nat} (h : c < M.length) (hf : ¬ M[c]? = some true) : (M.set c true).count true = M.count true + 1 := by
  have h0 : M[c] = false := by
    cases hb : M[c] with
    | false => rfl
    | true => exact absurd (by rw [List.getElem?_eq_getElem h, hb]) hf
  rw [List.count_set h, h0]
  simp
theorem markS_count {x : List Bool × List Nat} {c : Nat} (h : c < x.1.length) : x.2.length + (markS x c).1.count true = (markS x c).2.length + x.1.count true := by
  unfold markS
  split
  · rfl
  · rename_i hf
    simp only [List.length_append, List.length_singleton, count_set h hf]
    omega
theorem markF_count : ∀ (l : List Nat) (x : List Bool × List Nat), (∀ c ∈ l, c < x.1.length) → x.2.length + (l.foldl markS x).1.count true = (l.foldl markS x).2.length + x.1.count true
  | [], _, _ => rfl
  | c :: l, x, h => by
    have h1 := markS_count (x := x) (c := c) (h c (by simp))
    have h2 := markF_count l (markS x c) (fun d hd => by rw [markS_len]; exact h d (by simp [hd]))
    rw [List.foldl_cons]
    omega
theorem markS_keep {x : List Bool × List Nat} {c v : Nat} (h : isM x.1 v) : isM (markS x c).1 v := by
  unfold markS
  split
  · exact h
  · unfold isM at *
    by_cases hv : c = v
    · subst hv
      rw [List.getElem?_set_self (List.getElem?_eq_some_iff.1 h).1]
    · rw [List.getElem?_set_ne hv]
      exact h
theorem markF_keep : ∀ (l : List Nat) {x : List Bool × List Nat} {v : Nat}, isM x.1 v → isM (l.foldl markS x).1 v
  | [], _, _, h => h
  | c :: l, x, v, h => by rw [List.foldl_cons]; exact markF_keep l (markS_keep h)
theorem markS_marks {x : List Bool × List Nat} {c : Nat} (h : c < x.1.length) : isM (markS x c).1 c := by
  unfold markS isM
  split
  · assumption
  · simp [List.getElem?_set_self h]
theorem markF_marks : ∀ (l : List Nat) {x : List Bool × List Nat}, (∀ c ∈ l, c < x.1.length) → ∀ c ∈ l, isM (l.foldl markS x).1 c
  | [], _, _, c, h => by cases h
  | d :: l, x, hl, c, h => by
    rw [List.foldl_cons]
    rcases List.mem_cons.1 h with rfl | h
    · exact markF_keep l (markS_marks (hl c (by simp)))
    · exact markF_marks l (fun e he => by rw [markS_len]; exact hl e (by simp [he])) c h
theorem markF_inv : ∀ (l : List Nat) {x : List Bool × List Nat}, (∀ c ∈ l, c < x.1.length) → (∀ v ∈ x.2, isM x.1 v) → (∀ v ∈ (l.foldl markS x).2, isM (l.foldl markS x).1 v) ∧ (∀ v, isM (l.foldl markS x).1 v → isM x.1 v ∨ (v ∈ l ∧ v ∈ (l.foldl markS x).2)) ∧ (∀ v ∈ x.2, v ∈ (l.foldl markS x).2)
  | [], x, _, h => ⟨h, fun v hv => .inl hv, fun v hv => hv⟩
  | c :: l, x, hl, h => by
    have hc := hl c (by simp)
    obtain ⟨i1, i2, i3⟩ := markF_inv l (x := markS x c) (fun e he => by rw [markS_len]; exact hl e (by simp [he])) (fun v hv => by
      by_cases hm : x.1[c]? = some true
      · have e : markS x c = x := by unfold markS; rw [if_pos hm]
        rw [e] at hv ⊢
        exact h v hv
      · have e : markS x c = (x.1.set c true, x.2 ++ [c]) := by unfold markS; rw [if_neg hm]
        rw [e] at hv
        rcases List.mem_append.1 hv with hv | hv
        · exact markS_keep (h v hv)
        · rw [List.mem_singleton] at hv
          subst hv
          exact markS_marks hc)
    rw [List.foldl_cons]
    refine ⟨i1, fun v hv => ?_, fun v hv => i3 v ?_⟩
    · rcases i2 v hv with h2 | ⟨h2, h3⟩
      · by_cases hm : x.1[c]? = some true
        · have e : markS x c = x := by unfold markS; rw [if_pos hm]
          rw [e] at h2
          exact .inl h2
        · have e : markS x c = (x.1.set c true, x.2 ++ [c]) := by unfold markS; rw [if_neg hm]
          by_cases hv : c = v
          · subst hv
            exact .inr ⟨by simp, i3 c (by rw [e]; simp)⟩
          · rw [e] at h2
            unfold isM at h2
            simp only at h2
            rw [List.getElem?_set_ne hv] at h2
            exact .inl h2
      · exact .inr ⟨by simp [h2], h3⟩
    · unfold markS
      split
      · exact hv
      · simp [hv]
structure SeenI (A : Nat → List Nat) (n a : Nat) (M : List Bool) (L : List Nat) : Prop where
  len : M.length = n
  first : isM M a
  left : ∀ v ∈ L, isM M v
  sound : ∀ v, isM M v → Rch A a v
  done : ∀ v, isM M v → v ∈ L ∨ ∀ c ∈ A v, isM M c
theorem seen_step {A : Nat → List Nat} {n a : Nat} {M : List Bool} {L : List Nat} {x : Nat} (hA : ∀ i, ∀ c ∈ A i, c < n) (h : SeenI A n a M (L ++ [x])) : SeenI A n a ((A x).foldl markS (M, L)).1 ((A x).foldl markS (M, L)).2 ∧ L.length + ((A x).foldl markS (M, L)).1.count true = ((A x).foldl markS (M, L)).2.length + M.count true := by
  have hl : ∀ c ∈ A x, c < (M, L).1.length := fun c hc => by rw [show (M, L).1.length = n from h.len]; exact hA x c hc
  obtain ⟨i1, i2, i3⟩ := markF_inv (A x) (x := (M, L)) hl (fun v hv => h.left v (by simp [hv]))
  refine ⟨⟨by rw [markF_len]; exact h.len, markF_keep _ h.first, i1, fun v hv => ?_, fun v hv => ?_⟩, markF_count (A x) (M, L) hl⟩
  · rcases i2 v hv with h1 | ⟨h1, _⟩
    · exact h.sound v h1
    · exact .step (h.sound x (h.left x (by simp))) h1
  · rcases i2 v hv with h1 | ⟨h1, h2⟩
    · rcases h.done v h1 with h2 | h2
      · rcases List.mem_append.1 h2 with h3 | h3
        · exact .inl (i3 v h3)
        · rw [List.mem_singleton] at h3
          subst h3
          exact .inr fun c hc => markF_marks (A v) hl c hc
      · exact .inr fun c hc => markF_keep _ (h2 c hc)
    · exact .inl h2
theorem seen_end {A : Nat → List Nat} {n a : Nat} {M : List Bool} (h : SeenI A n a M []) (v : Nat) : isM M v ↔ Rch A a v := by
  refine ⟨h.sound v, fun hr => ?_⟩
  induction hr with
  | refl => exact h.first
  | step _ hc ih =>
    rcases h.done _ ih with h1 | h1
    · cases h1
    · exact h1 _ hc
theorem count_le (M : List Bool) : M.count true ≤ M.length := List.count_le_length
end Go.Proofs.YtpgipdajinkdgaaGreatA

namespace Go.Proofs.YtpgipdajinkdgaaGreatA
open Go Go.RowKit
set_option linter.all false
set_option linter.unusedSectionVars false
set_option linter.constructorNameAsVariable false
set_option linter.unusedVariables false
set_option linter.unusedSimpArgs false
def adjV (n : Nat) (A : Nat → List Nat) : AV := mkL 1 ((List.range n).map fun i => [mkL 1 (nRows (A i))])
def bCells (M : List Bool) : List AV := M.map fun b => .sc (.bool b)
def SH (M : List Bool) (L : List Nat) (junk : List AV) (ver : Nat) : List Blk := [⟨4, 1, 0, true, bCells M, .cells⟩, ⟨3, 1, ver, true, (nRows L).flatten ++ junk, .cells⟩]
theorem bCells_set {M : List Bool} {c : Nat} (h : c < M.length) : splice (bCells M) c [.sc (.bool true)] = bCells (M.set c true) := by
  unfold splice bCells
  rw [List.map_set, List.set_eq_take_append_cons_drop, if_pos (by simpa using h)]
  simp
theorem bCells_get {M : List Bool} {c : Nat} (h : c < M.length) : (bCells M)[c]? = some (.sc (.bool M[c])) := by
  unfold bCells
  rw [List.getElem?_map, List.getElem?_eq_getElem h]
  rfl
set_option maxHeartbeats 1000000 in
theorem seen_loop {n k : Nat} {A : Nat → List Nat} (hn : n ≤ 1000) (hA : ∀ i, ∀ c ∈ A i, c < n) {x : Nat} (hlen : (A x).length ≤ 100000) (hk : 100010 ≤ k) {jump : Code → Code → St → Option (AX × St)} {s0 : St} {R : Option (AX × St)} {M : List Bool} {L : List Nat} {junk : List AV} {ver : Nat}
    (h : aloop Tryz.prog (acall cf.mode false (arun Tryz.prog cf k)) (acall cf.mode true (arun Tryz.prog cf k)) jump (pureOf cf.mode) (cf.dyn 85) (cf.keep 85) 65 k (loopAt Tryz.f85 11) s0 = R)
    (h0 : pr [0, 5, 6, 46, 47, 48] s0 = ⟨[(0, adjV n A), (5, .own 0 0 n 1 0), (6, .own 1 0 L.length 1 ver), (46, mkL 1 (nRows (A x))), (47, .sc (.int .i64 (A x).length)), (48, .sc (.int .i64 0))], SH M L junk ver⟩) (hM : M.length = n) (hL : L.length ≤ 100000) :
    ∃ junk' ver', R = some (.exit 0, ⟨[(0, adjV n A), (5, .own 0 0 n 1 0), (6, .own 1 0 ((A x).foldl markS (M, L)).2.length 1 ver'), (46, mkL 1 (nRows (A x))), (47, .sc (.int .i64 (A x).length)), (48, .sc (.int .i64 (A x).length)), (49, .sc (.bool false))], SH ((A x).foldl markS (M, L)).1 ((A x).foldl markS (M, L)).2 junk' ver'⟩) := by
  have hw := wraps (n := (A x).length) (by omega)
  obtain ⟨s, ⟨junk', ver', rfl, _⟩, e⟩ := aloop_inv2 h [0, 5, 6, 46, 47, 48] (fun j s => ∃ junk' ver', s = ⟨[(0, adjV n A), (5, .own 0 0 n 1 0), (6, .own 1 0 (((A x).take j).foldl markS (M, L)).2.length 1 ver'), (46, mkL 1 (nRows (A x))), (47, .sc (.int .i64 (A x).length)), (48, .sc (.int .i64 (j : Nat)))], SH (((A x).take j).foldl markS (M, L)).1 (((A x).take j).foldl markS (M, L)).2 junk' ver'⟩ ∧ (((A x).take j).foldl markS (M, L)).2.length ≤ L.length + j) (A x).length (by omega) rfl
    ⟨junk, ver, h0, by simp⟩ (fun j hj s ⟨junk', ver', hs, hb⟩ => by
      subst hs
      obtain ⟨c, hc⟩ : ∃ c, c = (A x)[j] := ⟨_, rfl⟩
      have xj : (A x)[j]? = some c := by rw [hc]; exact List.getElem?_eq_getElem hj
      have hcn : c < n := hA x c (by rw [hc]; exact List.getElem_mem hj)
      have hstep : ((A x).take (j + 1)).foldl markS (M, L) = markS (((A x).take j).foldl markS (M, L)) c := by
        rw [List.take_succ_eq_append_getElem hj, List.foldl_append, ← hc]
        rfl
      have hlen1 := markF_len ((A x).take j) (M, L)
      rw [hstep]
      obtain ⟨M1, hM1⟩ : ∃ M1, M1 = (((A x).take j).foldl markS (M, L)).1 := ⟨_, rfl⟩
      obtain ⟨L1, hL1⟩ : ∃ L1, L1 = (((A x).take j).foldl markS (M, L)).2 := ⟨_, rfl⟩
      have hp : ((A x).take j).foldl markS (M, L) = (M1, L1) := by rw [hM1, hL1]
      rw [hp] at hlen1 hb ⊢
      have hM1l : c < M1.length := by rw [hlen1]; exact (by rw [hM]; exact hcn)
      have hg := bCells_get hM1l
      unfold markS
      by_cases hm : M1[c] = true
      · rw [if_pos (by rw [List.getElem?_eq_getElem hM1l, hm])]
        rw [hm] at hg
        refine ⟨_, by
          unfold SH
          simp only [R0, RC, zipEnv, Nat.reduceLT, Nat.reduceAdd, Nat.reduceEqDiff, Nat.reduceLeDiff, reduceCtorEq, ↓reduceIte, ares, aresult, pr, Int.reduceEq, Int.reduceLT, Int.reduceLE, Nat.reduceSub, Nat.reduceMul, aFieldAddr, aField, aLoad, aStore, aExtract, aBox, aint, rdVar, rdCells, Value.oneCell', splice, Int.reduceNeg, zvar1, chunks, depth, some_map, Nat.reduceBEq, cf_dyn, okU, Tryz.f85, rf85, loopAt, findLoop, firstId, Option.getD_some, hj, xj, hw j hj, hcn, hg]
          done, junk', ver', rfl, by omega⟩
      · have hm' : M1[c] = false := by simpa using hm
        rw [if_neg (by rw [List.getElem?_eq_getElem hM1l, hm']; simp)]
        rw [hm'] at hg
        have hsp := bCells_set hM1l
        have hb' : L1.length ≤ L.length + j := hb
        have hbl : (c + 1 ≤ (bCells M1).length) = True := by unfold bCells; rw [List.length_map]; simp; omega
        have happ := app_oj (P := Tryz.prog) (H := [⟨4, 1, 0, true, bCells (M1.set c true), .cells⟩, ⟨3, 1, ver', true, (nRows L1).flatten ++ junk', .cells⟩]) (b := 1) (ver := ver') (rows := nRows L1) (more := [[.sc (.int .i64 (c : Nat))]]) (junk := junk') ro85 rfl nRows_row (by simp) (fun r hr => by rw [List.mem_singleton] at hr; subst hr; rfl) (by simp; omega) (by simp [maxLen]; omega)
        have hsn : (nRows L1).flatten ++ [[AV.sc (.int .i64 (c : Nat))]].flatten = (nRows (L1 ++ [c])).flatten := by simp [nRows]
        rw [hsn] at happ
        simp only [List.length_map, List.length_cons, List.length_nil, Nat.zero_add] at happ
        refine ⟨_, by
          unfold SH
          simp only [R0, RC, zipEnv, Nat.reduceLT, Nat.reduceAdd, Nat.reduceEqDiff, Nat.reduceLeDiff, reduceCtorEq, ↓reduceIte, ares, aresult, pr, Int.reduceEq, Int.reduceLT, Int.reduceLE, Nat.reduceSub, Nat.reduceMul, aFieldAddr, aField, aLoad, aStore, aExtract, aBox, aint, rdVar, rdCells, Value.oneCell', Int.reduceNeg, zvar1, chunks, depth, some_map, Nat.reduceBEq, cf_dyn, okU, Tryz.f85, rf85, loopAt, findLoop, firstId, Option.getD_some, hj, xj, hw j hj, hcn, hg, hsp, hbl, happ, List.length_append]
          rfl, [], ver' + 1, by simp only [SH, List.append_nil, List.length_append, List.length_cons, List.length_nil, Nat.zero_add], by simp; omega⟩) (fun s ⟨junk', ver', hs, hb⟩ => by
      subst hs
      simp only [R0, RC, zipEnv, Nat.reduceLT, Nat.reduceAdd, Nat.reduceEqDiff, Nat.reduceLeDiff, reduceCtorEq, ↓reduceIte, ares, aresult, pr, Int.reduceEq, Int.reduceLT, Int.reduceLE, Nat.reduceSub, Nat.reduceMul, aFieldAddr, aField, aLoad, aStore, aExtract, aBox, aint, rdVar, rdCells, Value.oneCell', splice, Int.reduceNeg, zvar1, chunks, depth, some_map, Nat.reduceBEq, cf_dyn, okU, Tryz.f85, rf85, loopAt, findLoop, firstId, Option.getD_some])
  rw [List.take_length] at e
  refine ⟨junk', ver', ?_⟩
  rw [e]
  simp only [R0, RC, zipEnv, Nat.reduceLT, Nat.reduceAdd, Nat.reduceEqDiff, Nat.reduceLeDiff, reduceCtorEq, ↓reduceIte, ares, aresult, pr, Int.reduceEq, Int.reduceLT, Int.reduceLE, Nat.reduceSub, Nat.reduceMul, aFieldAddr, aField, aLoad, aStore, aExtract, aBox, aint, rdVar, rdCells, Value.oneCell', splice, Int.reduceNeg, zvar1, chunks, depth, some_map, Nat.reduceBEq, cf_dyn, okU, Tryz.f85, rf85, loopAt, findLoop, firstId, Option.getD_some]
end Go.Proofs.YtpgipdajinkdgaaGreatA

namespace Go.Proofs.YtpgipdajinkdgaaGreatA
open Go Go.RowKit
set_option linter.all false
set_option linter.unusedSectionVars false
set_option linter.constructorNameAsVariable false
set_option linter.unusedVariables false
set_option linter.unusedSimpArgs false
theorem inScope_g {jump : Code → Code → St → Option (AX × St)} {b : Code} {l : Nat} {s : St} : inScope jump b (some (.goto l, s)) = match findLabel b l with
    | some rest => jump b rest s
    | none => some (.goto l, s) := rfl
theorem adj_len {H : List Blk} {n : Nat} {A : Nat → List Nat} : aLen Tryz.prog H 124 (adjV n A) = some (.val (.sc (.int .i64 n))) := by
  unfold adjV
  rw [len124]
  simp
theorem adj_ix {H : List Blk} {n i : Nat} {A : Nat → List Nat} {q : IntKind} (h : i < n) : aIndexAddr Tryz.prog H 124 (adjV n A) (.sc (.int q (i : Nat))) = some (.val (.ro [mkL 1 (nRows (A i))])) := by
  unfold adjV
  rw [ix124, List.getElem?_map, List.getElem?_range h]
  rfl
set_option maxHeartbeats 1000000 in
theorem seen_run (n a : Nat) (A : Nat → List Nat) (hn : n ≤ 1000) (ha : a < n) (hA : ∀ i, ∀ c ∈ A i, c < n) (hlen : ∀ i, (A i).length ≤ 100000) (k : Nat) (hk : 200000 ≤ k) :
    ∃ M : List Bool, M.length = n ∧ (∀ v, isM M v ↔ Rch A a v) ∧ val Tryz.prog cf k 85 [adjV n A, .sc (.int .i64 (a : Nat))] = some (mkL 1 (M.map fun b => [.sc (.bool b)])) := by
  obtain ⟨k, rfl⟩ : ∃ j, k = j + 1 := ⟨k - 1, by omega⟩
  have key : ∃ M : List Bool, M.length = n ∧ (∀ v, isM M v ↔ Rch A a v) ∧ ∃ H, arun Tryz.prog cf (k + 1) 85 [adjV n A, .sc (.int .i64 (a : Nat))] [] = some (.own 0 0 n 1 0, H) ∧ H[0]? = some ⟨4, 1, 0, true, bCells M, .cells⟩ := by
    rw [arun_body rfl rfl Tryz.func85 rfl (N := 65) rfl]
    have h0 : ((0 : Int) ≤ (a : Int)) = True := by simp
    have b1 : n ≤ 140737488355328 := by omega
    have b2 : n ≤ maxLen := by unfold maxLen; omega
    have hal := fun H => adj_len (H := H) (n := n) (A := A)
    have hax := fun H => adj_ix (H := H) (n := n) (A := A) (i := a) (q := .i64) ha
    obtain ⟨M0, hM0⟩ : ∃ M0, M0 = (List.replicate n false).set a true := ⟨_, rfl⟩
    have hz : (List.replicate n [AV.sc (.bool false)]).flatten = bCells (List.replicate n false) := by
      unfold bCells
      rw [List.map_replicate, show (List.replicate n [AV.sc (.bool false)]) = (List.replicate n (AV.sc (.bool false))).map (fun v => [v]) by rw [List.map_replicate], flat_one]
    have hsp : splice (bCells (List.replicate n false)) a [.sc (.bool true)] = bCells M0 := by rw [hM0]; exact bCells_set (by simpa using ha)
    have hbl : (a + 1 ≤ (bCells (List.replicate n false)).length) = True := by unfold bCells; simp; omega
    have ha1 := acc1 (P := Tryz.prog) (H := [⟨4, 1, 0, true, bCells (List.replicate n false), .cells⟩]) (rows := []) (r := [.sc (.int .i64 (a : Nat))]) ro85 (fun _ h => by cases h) rfl rfl (by decide) (by decide)
    simp only [accV_nil, accB_nil, List.append_nil, List.nil_append, accV, accB, reduceCtorEq, List.cons_ne_self, if_false, if_true, List.length_cons, List.length_nil, Nat.zero_add, Nat.sub_self, List.flatten_cons, List.flatten_nil, List.cons_append] at ha1
    have e0 : IntKind.i64.wrap (((1 : Nat) : Int) - 1) = ((0 : Nat) : Int) := rfl
    have c1 : (((1 : Nat) : Int) = 0) = False := by simp
    have hM0l : M0.length = n := by rw [hM0]; simp
    have hI0 : SeenI A n a M0 [a] := by
      refine ⟨hM0l, by rw [hM0]; unfold isM; rw [List.getElem?_set_self (by simpa using ha)], fun v hv => ?_, fun v hv => ?_, fun v hv => ?_⟩
      · rw [List.mem_singleton] at hv
        subst hv
        rw [hM0]; unfold isM; rw [List.getElem?_set_self (by simpa using ha)]
      · by_cases hva : a = v
        · subst hva; exact .refl
        · rw [hM0] at hv
          unfold isM at hv
          rw [List.getElem?_set_ne hva] at hv
          have := List.mem_of_getElem? hv
          simp at this
      · by_cases hva : a = v
        · subst hva; exact .inl (by simp)
        · rw [hM0] at hv
          unfold isM at hv
          rw [List.getElem?_set_ne hva] at hv
          have := List.mem_of_getElem? hv
          simp at this
    have hc0 : M0.count true = 1 := by
      rw [hM0, List.count_set (by simpa using ha)]
      simp [List.count_replicate]
    simp only [R0, RC, zipEnv, Nat.reduceLT, Nat.reduceAdd, Nat.reduceEqDiff, Nat.reduceLeDiff, reduceCtorEq, ↓reduceIte, ares, aresult, pr, Int.reduceEq, Int.reduceLT, Int.reduceLE, Nat.reduceSub, Nat.reduceMul, aFieldAddr, aField, aLoad, aStore, aExtract, aBox, aint, rdVar, rdCells, Value.oneCell', Int.reduceNeg, zvar1, chunks, depth, some_map, Nat.reduceBEq, cf_dyn, okU, Tryz.f85, rf85, hal, h0, ha, b1, b2, hz, hsp, hbl, hax, ha1, e0, c1]
    generalize hB : aloop _ _ _ _ _ _ _ _ _ _ _ = B
    obtain ⟨junk1, ver1, e1⟩ := seen_loop hn hA (hlen a) (by omega) (M := M0) (L := []) (junk := [.sc (.int .i64 (a : Nat))]) (ver := 0) hB (by simp only [R0, RC, zipEnv, Nat.reduceLT, Nat.reduceAdd, Nat.reduceEqDiff, Nat.reduceLeDiff, reduceCtorEq, ↓reduceIte, ares, aresult, pr, Int.reduceEq, Int.reduceLT, Int.reduceLE, Nat.reduceSub, Nat.reduceMul, aFieldAddr, aField, aLoad, aStore, aExtract, aBox, aint, rdVar, rdCells, Value.oneCell', splice, Int.reduceNeg, zvar1, chunks, depth, some_map, Nat.reduceBEq, cf_dyn, okU, Tryz.f85, rf85]; rfl) hM0l (by simp)
    rw [e1]
    simp only [R0, RC, zipEnv, Nat.reduceLT, Nat.reduceAdd, Nat.reduceEqDiff, Nat.reduceLeDiff, reduceCtorEq, ↓reduceIte, ares, aresult, pr, Int.reduceEq, Int.reduceLT, Int.reduceLE, Nat.reduceSub, Nat.reduceMul, aFieldAddr, aField, aLoad, aStore, aExtract, aBox, aint, rdVar, rdCells, Value.oneCell', Int.reduceNeg, zvar1, chunks, depth, some_map, Nat.reduceBEq, cf_dyn, okU, Tryz.f85, rf85, inScope_g, findLabel]
    obtain ⟨p1, p2⟩ := seen_step (x := a) (L := []) hA hI0
    generalize hJ : jumpN _ _ _ _ _ _ _ _ _ _ _ _ = J
    obtain ⟨Rr, eR, hret, h4, M, hM1, hM2, hM3⟩ := jump_Tx hJ 0 rfl
      (fun i s => ∃ E M L junk ver, s = ⟨E, SH M L junk ver⟩ ∧ eget E 0 = adjV n A ∧ eget E 5 = .own 0 0 n 1 0 ∧ eget E 6 = .own 1 0 L.length 1 ver ∧ SeenI A n a M L ∧ i + 1 + L.length = M.count true)
      (fun R => R.1 = .ret ∧ eget R.2.env 4 = .own 0 0 n 1 0 ∧ ∃ M : List Bool, M.length = n ∧ (∀ v, isM M v ↔ Rch A a v) ∧ R.2.heap[0]? = some ⟨4, 1, 0, true, bCells M, .cells⟩)
      n (by omega)
      ⟨_, _, _, junk1, ver1, rfl, by simp only [eget_cons, if_true, if_false, Nat.reduceEqDiff], by simp only [eget_cons, if_true, if_false, Nat.reduceEqDiff], by simp only [eget_cons, if_true, if_false, Nat.reduceEqDiff], p1, by simp only [List.length_nil] at p2; omega⟩
      (fun i hi s j ⟨E, M, L, junk, ver, hs, g0, g5, g6, hS, hcnt⟩ => by
        subst hs
        rcases List.eq_nil_or_concat L with rfl | ⟨L0, x, rfl⟩
        · right
          have c2 : (((([] : List Nat).length : Nat) : Int) = 0) = True := by simp
          refine ⟨_, by
            simp only [R0, RC, zipEnv, Nat.reduceLT, Nat.reduceAdd, Nat.reduceEqDiff, Nat.reduceLeDiff, reduceCtorEq, ↓reduceIte, ares, aresult, pr, Int.reduceEq, Int.reduceLT, Int.reduceLE, Nat.reduceSub, Nat.reduceMul, aFieldAddr, aField, aLoad, aStore, aExtract, aBox, aint, rdVar, rdCells, Value.oneCell', Int.reduceNeg, zvar1, chunks, depth, some_map, Nat.reduceBEq, cf_dyn, okU, Tryz.f85, rf85, g6, c2, List.length_nil, Int.natCast_zero, g5, eget_eput]
            rfl, rfl, rfl, ?_, M, hS.len, seen_end hS, rfl⟩
          simp only [eget_eput, if_true]
        · left
          rw [List.concat_eq_append] at g6 hS hcnt ⊢
          have hxm : isM M x := hS.left x (by simp)
          have hxn : x < n := by rw [← hS.len]; exact (List.getElem?_eq_some_iff.1 hxm).1
          have hL0 : L0.length ≤ 1000 := by
            have := count_le M
            rw [hS.len] at this
            rw [List.length_append, List.length_singleton] at hcnt
            omega
          have hSH : SH M (L0 ++ [x]) junk ver = SH M L0 (.sc (.int .i64 (x : Nat)) :: junk) ver := by
            unfold SH
            simp [nRows]
          rw [hSH]
          rw [List.length_append, List.length_singleton] at g6
          obtain ⟨q1, q2⟩ := seen_step hA hS
          have c2 : ((L0.length + 1 : Nat) : Int) = 0 ↔ False := by simp; omega
          have w1 : IntKind.i64.wrap (((L0.length + 1 : Nat) : Int) - 1) = ((L0.length : Nat) : Int) := by
            have := wrap_sub1 (a := L0.length + 1) (by omega) (by omega)
            rwa [Nat.add_sub_cancel] at this
          have hix : ((nRows L0).flatten ++ AV.sc (.int .i64 (x : Nat)) :: junk)[L0.length]? = some (.sc (.int .i64 (x : Nat))) := by
            have hl : (nRows L0).flatten.length = L0.length := by rw [flat_len2 nRows_row]; simp
            rw [List.getElem?_append_right (by omega), hl, Nat.sub_self]
            rfl
          have hax := fun H => adj_ix (H := H) (n := n) (A := A) (i := x) (q := .i64) hxn
          have hb0 : (L0.length ≤ L0.length + 1) = True := by simp
          have hJ' := fun jump (s0 : St) (R : Option (AX × St)) => seen_loop (jump := jump) (s0 := s0) (R := R) hn hA (hlen x) (show 100010 ≤ k by omega) (M := M) (L := L0) (junk := .sc (.int .i64 (x : Nat)) :: junk) (ver := ver)
          have gl : ∃ s1, s1 = SH M L0 (.sc (.int .i64 (x : Nat)) :: junk) ver := ⟨_, rfl⟩
          unfold SH
          simp only [R0, RC, zipEnv, Nat.reduceLT, Nat.reduceAdd, Nat.reduceEqDiff, Nat.reduceLeDiff, reduceCtorEq, ↓reduceIte, ares, aresult, pr, Int.reduceEq, Int.reduceLT, Int.reduceLE, Nat.reduceSub, Nat.reduceMul, aFieldAddr, aField, aLoad, aStore, aExtract, aBox, aint, rdVar, rdCells, Value.oneCell', Int.reduceNeg, zvar1, chunks, depth, some_map, Nat.reduceBEq, cf_dyn, okU, Tryz.f85, rf85, g6, c2, g5, g0, eget_eput, w1, hix, hax, hb0, Nat.sub_zero]
          generalize hC : aloop _ _ _ _ _ _ _ _ _ _ _ = C
          obtain ⟨junk2, ver2, e3⟩ := hJ' _ _ _ hC (by simp only [R0, RC, zipEnv, Nat.reduceLT, Nat.reduceAdd, Nat.reduceEqDiff, Nat.reduceLeDiff, reduceCtorEq, ↓reduceIte, ares, aresult, pr, Int.reduceEq, Int.reduceLT, Int.reduceLE, Nat.reduceSub, Nat.reduceMul, aFieldAddr, aField, aLoad, aStore, aExtract, aBox, aint, rdVar, rdCells, Value.oneCell', Int.reduceNeg, zvar1, chunks, depth, some_map, Nat.reduceBEq, cf_dyn, okU, Tryz.f85, rf85, eget_eput, SH, g0, g5]; try rfl) hS.len (by omega)
          rw [e3]
          refine ⟨_, by simp only [R0, RC, zipEnv, Nat.reduceLT, Nat.reduceAdd, Nat.reduceEqDiff, Nat.reduceLeDiff, reduceCtorEq, ↓reduceIte, ares, aresult, pr, Int.reduceEq, Int.reduceLT, Int.reduceLE, Nat.reduceSub, Nat.reduceMul, aFieldAddr, aField, aLoad, aStore, aExtract, aBox, aint, rdVar, rdCells, Value.oneCell', Int.reduceNeg, zvar1, chunks, depth, some_map, Nat.reduceBEq, cf_dyn, okU, Tryz.f85, rf85]; rfl, _, _, _, junk2, ver2, rfl, by simp only [eget_cons, if_true, if_false, Nat.reduceEqDiff], by simp only [eget_cons, if_true, if_false, Nat.reduceEqDiff], by simp only [eget_cons, if_true, if_false, Nat.reduceEqDiff], q1, ?_⟩
          rw [List.length_append, List.length_singleton] at hcnt
          omega)
      (fun s j ⟨E, M, L, junk, ver, hs, g0, g5, g6, hS, hcnt⟩ => by
        have := count_le M
        rw [hS.len] at this
        omega)
    obtain ⟨x, s⟩ := Rr
    simp only at hret h4 hM3
    subst hret
    refine ⟨M, hM1, hM2, s.heap, ?_, hM3⟩
    rw [eR]
    simp only [R0, RC, zipEnv, Nat.reduceLT, Nat.reduceAdd, Nat.reduceEqDiff, Nat.reduceLeDiff, reduceCtorEq, ↓reduceIte, ares, aresult, pr, Int.reduceEq, Int.reduceLT, Int.reduceLE, Nat.reduceSub, Nat.reduceMul, aFieldAddr, aField, aLoad, aStore, aExtract, aBox, aint, rdVar, rdCells, Value.oneCell', Int.reduceNeg, zvar1, chunks, depth, some_map, Nat.reduceBEq, cf_dyn, okU, Tryz.f85, rf85, h4]
  obtain ⟨M, h1, h2, H, e, hH⟩ := key
  refine ⟨M, h1, h2, val_acc (e := 4) (sz := 1) (rows := M.map fun b => [.sc (.bool b)]) e (.inr ⟨?_, 0, 0, by rw [List.length_map, h1], ?_⟩) ?_ ?_⟩
  · intro h0
    have : M = [] := by simpa using h0
    rw [this] at h1
    simp at h1
    omega
  · have hfl : (M.map fun b => [AV.sc (.bool b)]).flatten = bCells M := by
      unfold bCells
      rw [← flat_one (M.map fun b => AV.sc (.bool b)), List.map_map]
      rfl
    rw [hH, hfl]
  · intro r hr
    obtain ⟨_, _, rfl⟩ := List.mem_map.1 hr
    rfl
  · intro r hr z hz
    obtain ⟨_, _, rfl⟩ := List.mem_map.1 hr
    rw [List.mem_singleton] at hz
    subst hz
    exact ⟨stays_bool, _, rfl⟩
def trues (M : List Bool) : List Nat := (List.range M.length).filter fun i => decide (M[i]? = some true)
theorem trues_mem {M : List Bool} {v : Nat} : v ∈ trues M ↔ isM M v := by
  unfold trues isM
  simp only [List.mem_filter, List.mem_range, decide_eq_true_eq]
  constructor
  · exact fun h => h.2
  · exact fun h => ⟨(List.getElem?_eq_some_iff.1 h).1, h⟩
def truesN (M : List Bool) (j : Nat) : List Nat := (List.range j).filter fun i => decide (M[i]? = some true)
theorem truesN_succ {M : List Bool} {j : Nat} {b : Bool} (h : M[j]? = some b) : truesN M (j + 1) = truesN M j ++ if b = true then [j] else [] := by
  unfold truesN
  rw [List.range_succ, List.filter_append]
  cases b <;> simp [h]
theorem truesN_len (M : List Bool) (j : Nat) : (truesN M j).length ≤ j := by
  unfold truesN
  exact Nat.le_trans (List.length_filter_le _ _) (by simp)
theorem reach_run (n a : Nat) (E : List (Nat × Nat)) (hn : n ≤ 1000) (ha : a < n) (hl : E.length ≤ 100000) (hE : ∀ x ∈ E, x.1 < n ∧ x.2 < n) (k : Nat) (hk : 300000 ≤ k) :
    ∃ M : List Bool, M.length = n ∧ (∀ v, isM M v ↔ Rch (adjN E) a v) ∧ val Tryz.prog cf k 48 [.sc (.int .i64 (n : Nat)), mkL 2 (pRows (E.map toI2)), .sc (.int .i64 (a : Nat))] = some (mkL 1 (nRows (trues M))) := by
  obtain ⟨k, rfl⟩ : ∃ j, k = j + 1 := ⟨k - 1, by omega⟩
  have hA : ∀ i, ∀ c ∈ adjN E i, c < n := by
    intro i c hc
    unfold adjN at hc
    obtain ⟨x, hx, rfl⟩ := List.mem_map.1 hc
    exact (hE x (List.mem_filter.1 hx).1).2
  obtain ⟨M, h1, h2, e⟩ := seen_run n a (adjN E) hn ha hA (fun i => Nat.le_trans (adjN_len E i) hl) k (by omega)
  refine ⟨M, h1, h2, ?_⟩
  have hh := held_run n hn k (by omega)
  have hli := lists_run n E hn hl hE k (by omega)
  rw [show mkL 1 ((List.range n).map fun i => [mkL 1 (nRows (adjN E i))]) = adjV n (adjN E) from rfl] at hli
  refine val_acc (e := 3) (rows := nRows (trues M)) (v := accV 0 1 (nRows (trues M))) (H1 := accB 3 1 (nRows (trues M))) ?_ acc_out0 nRows_row nRows_stay
  rw [arun_body rfl rfl Tryz.func48 rfl (N := 29) rfl]
  have hw := wraps (n := M.length) (by omega)
  unfold adjV at hli e
  simp only [R0, RC, zipEnv, Nat.reduceLT, Nat.reduceAdd, Nat.reduceEqDiff, Nat.reduceLeDiff, reduceCtorEq, ↓reduceIte, ares, aresult, pr, Int.reduceEq, Int.reduceLT, Int.reduceLE, Nat.reduceSub, Nat.reduceMul, aFieldAddr, aField, aLoad, aStore, aExtract, aBox, aint, rdVar, rdCells, Value.oneCell', splice, Int.reduceNeg, zvar1, chunks, depth, some_map, Nat.reduceBEq, cf_dyn, okU, Tryz.f48, rf48, hh, hli, e]
  generalize hA : aloop _ _ _ _ _ _ _ _ _ _ _ = A
  have e1 := aloop_eqR hA [7, 15, 16, 17] (fun j => ⟨[(7, accV 0 1 (nRows (truesN M j))), (15, mkL 1 (M.map fun b => [.sc (.bool b)])), (16, .sc (.int .i64 M.length)), (17, .sc (.int .i64 (j : Nat)))], accB 3 1 (nRows (truesN M j))⟩) M.length (by omega) rfl (by simp only [R0, RC, zipEnv, Nat.reduceLT, Nat.reduceAdd, Nat.reduceEqDiff, Nat.reduceLeDiff, reduceCtorEq, ↓reduceIte, ares, aresult, pr, Int.reduceEq, Int.reduceLT, Int.reduceLE, Nat.reduceSub, Nat.reduceMul, aFieldAddr, aField, aLoad, aStore, aExtract, aBox, aint, rdVar, rdCells, Value.oneCell', splice, Int.reduceNeg, zvar1, chunks, depth, some_map, Nat.reduceBEq, cf_dyn, okU, Tryz.f48, rf48]; rfl) (fun j hj => by
      obtain ⟨b, hb⟩ : ∃ b, b = M[j] := ⟨_, rfl⟩
      have xj : M[j]? = some b := by rw [hb]; exact List.getElem?_eq_getElem hj
      have hs := truesN_succ xj
      have hlen := truesN_len M j
      cases b with
      | false =>
        simp only [Bool.false_eq_true, if_false, List.append_nil] at hs
        simp only [R0, RC, zipEnv, Nat.reduceLT, Nat.reduceAdd, Nat.reduceEqDiff, Nat.reduceLeDiff, reduceCtorEq, ↓reduceIte, ares, aresult, pr, Int.reduceEq, Int.reduceLT, Int.reduceLE, Nat.reduceSub, Nat.reduceMul, aFieldAddr, aField, aLoad, aStore, aExtract, aBox, aint, rdVar, rdCells, Value.oneCell', splice, Int.reduceNeg, zvar1, chunks, depth, some_map, Nat.reduceBEq, cf_dyn, okU, Tryz.f48, rf48, hj, xj, hw j hj, hs]
      | true =>
        simp only [if_true] at hs
        have hb := acc1_0 (P := Tryz.prog) (rows := nRows (truesN M j)) (r := [.sc (.int .i64 (j : Nat))]) ro85 nRows_row rfl rfl (by rw [List.length_map]; omega) (by rw [List.length_map]; unfold maxLen; omega)
        have e2 : nRows (truesN M (j + 1)) = nRows (truesN M j) ++ [[.sc (.int .i64 (j : Nat))]] := by rw [hs]; simp [nRows]
        rw [← e2] at hb
        simp only [R0, RC, zipEnv, Nat.reduceLT, Nat.reduceAdd, Nat.reduceEqDiff, Nat.reduceLeDiff, reduceCtorEq, ↓reduceIte, ares, aresult, pr, Int.reduceEq, Int.reduceLT, Int.reduceLE, Nat.reduceSub, Nat.reduceMul, aFieldAddr, aField, aLoad, aStore, aExtract, aBox, aint, rdVar, rdCells, Value.oneCell', splice, Int.reduceNeg, zvar1, chunks, depth, some_map, Nat.reduceBEq, cf_dyn, okU, Tryz.f48, rf48, hj, xj, hw j hj, hb]) (by simp only [R0, RC, zipEnv, Nat.reduceLT, Nat.reduceAdd, Nat.reduceEqDiff, Nat.reduceLeDiff, reduceCtorEq, ↓reduceIte, ares, aresult, pr, Int.reduceEq, Int.reduceLT, Int.reduceLE, Nat.reduceSub, Nat.reduceMul, aFieldAddr, aField, aLoad, aStore, aExtract, aBox, aint, rdVar, rdCells, Value.oneCell', splice, Int.reduceNeg, zvar1, chunks, depth, some_map, Nat.reduceBEq, cf_dyn, okU, Tryz.f48, rf48]; rfl) rfl
  rw [e1]
  simp only [R0, RC, zipEnv, Nat.reduceLT, Nat.reduceAdd, Nat.reduceEqDiff, Nat.reduceLeDiff, reduceCtorEq, ↓reduceIte, ares, aresult, pr, Int.reduceEq, Int.reduceLT, Int.reduceLE, Nat.reduceSub, Nat.reduceMul, aFieldAddr, aField, aLoad, aStore, aExtract, aBox, aint, rdVar, rdCells, Value.oneCell', splice, Int.reduceNeg, zvar1, chunks, depth, some_map, Nat.reduceBEq, cf_dyn, okU, Tryz.f48, rf48]
  rfl
end Go.Proofs.YtpgipdajinkdgaaGreatA

namespace Go.Proofs.YtpgipdajinkdgaaGreatA
open Go Go.RowKit
set_option linter.all false
set_option linter.unusedSectionVars false
set_option linter.constructorNameAsVariable false
set_option linter.unusedVariables false
set_option linter.unusedSimpArgs false
abbrev SM := List (ByteArray × Int)
def encM (m : SM) : List (Value × AV) := m.map fun p => (.string p.1, .sc (.int .i64 p.2))
def lookM : SM → ByteArray → Int
  | [], _ => 0
  | p :: m, s => if p.1 = s then p.2 else lookM m s
def putM : SM → ByteArray → Int → SM
  | [], s, v => [(s, v)]
  | p :: m, s, v => if p.1 = s then (s, v) :: m else p :: putM m s v
theorem look_put (m : SM) (s t : ByteArray) (v : Int) : lookM (putM m s v) t = if t = s then v else lookM m t := by
  induction m with
  | nil =>
    by_cases h : s = t
    · simp [putM, lookM, h]
    · simp [putM, lookM, h]
      exact fun e => absurd e.symm h
  | cons p m ih =>
    by_cases hp : p.1 = s
    · by_cases h : s = t
      · simp [putM, lookM, hp, h]
      · have h' : ¬ t = s := fun e => h e.symm
        simp [putM, lookM, hp, h, h']
    · by_cases h : p.1 = t
      · have h' : ¬ t = s := fun e => hp (h.trans e)
        simp [putM, lookM, hp, h, h']
      · simp [putM, lookM, hp, h, ih]
def aLook (P : Program) (H : List Blk) (t : TypeId) (x k : AV) (ok : Bool) : Option Res := match P.underlying t with
    | some (.map kt et) =>
      match simpleKey P kt, mapOf H x, akey k, P.info? et with
      | some kd, some kvs, some kv, some i =>
        match i.zero, afind kd kv kvs 0 with
        | some zv, some r => some (.val (if ok then .tup [(hit zv r).1, .sc (.bool (hit zv r).2)] else (hit zv r).1))
        | _, _ => none
      | _, _, _, _ => none
    | _ => none
def aPutM (P : Program) (H : List Blk) (t : TypeId) (m k x : AV) : Option Res := match P.underlying t with
    | some (.map kt _) =>
      match simpleKey P kt, m, akey k with
      | some kd, .mp b ver, some kv =>
        match mapAt H b ver with
        | some (blk, kvs) => match afind kd kv kvs 0 with
          | some (some (i, _)) => some (.upd .bad b { blk with kind := .map (kvs.set i (kv, x)) })
          | some none => some (.upd .bad b { blk with kind := .map (kvs ++ [(kv, x)]) })
          | none => none
        | none => none
      | _, _, _ => none
    | _ => none
def aMkM (P : Program) (H : List Blk) (t : TypeId) : Option Res := match P.underlying t with
    | some (.map _ _) => some (.new (.mp H.length 0) ⟨0, 0, 0, false, [], .map []⟩)
    | _ => none
section
variable {P : Program} {H : List Blk} {ρ : Operand → AV} {d : Option Tmp} {t ty : TypeId} {pos : String} {af : Array Edge} {g : Option (Nat × Bool)} {x y w : Operand}
theorem aop_lookup {ok : Bool} : aop P H ρ ⟨d, .lookup t x y ok, ty, pos, af, g⟩ = aLook P H t (ρ x) (ρ y) ok := rfl
theorem aop_mapUpdate : aop P H ρ ⟨d, .mapUpdate t x y w, ty, pos, af, g⟩ = aPutM P H t (ρ x) (ρ y) (ρ w) := rfl
theorem aop_makeMap : aop P H ρ ⟨d, .makeMap t none, ty, pos, af, g⟩ = aMkM P H t := rfl
end
theorem mkM {H : List Blk} : aMkM Tryz.prog H 84 = some (.new (.mp H.length 0) ⟨0, 0, 0, false, [], .map []⟩) := by
  unfold aMkM
  rw [Tryz.underlying84]
theorem sameS (a b : ByteArray) : Instr.sameNow .string (.string a) (.string b) = some (decide (a = b)) := by
  simp only [Instr.sameNow]
  rw [show (a == b) = decide (a = b) by rw [beq_toListBytes, bytes_eq]]
theorem afind_enc (s : ByteArray) : ∀ (m : SM) (i : Nat), ∃ r, afind .string (.string s) (encM m) i = some r ∧ (hit (.int .i64 0) r).1 = .sc (.int .i64 (lookM m s)) ∧
    (match r with | some (j, _) => i ≤ j ∧ ∀ v, (encM m).set (j - i) (.string s, .sc (.int .i64 v)) = encM (putM m s v) | none => ∀ v, encM m ++ [(.string s, .sc (.int .i64 v))] = encM (putM m s v))
  | [], i => ⟨none, rfl, rfl, fun v => rfl⟩
  | p :: m, i => by
    obtain ⟨r, h1, h2, h3⟩ := afind_enc s m (i + 1)
    by_cases hp : p.1 = s
    · refine ⟨some (i, .sc (.int .i64 p.2)), ?_, ?_, Nat.le_refl _, fun v => ?_⟩
      · simp only [encM, List.map_cons, afind, sameS, hp.symm, decide_true]
      · simp only [hit, lookM, if_pos hp]
      · simp only [Nat.sub_self, encM, List.map_cons, List.set_cons_zero, putM, if_pos hp]
    · have hp' : ¬ s = p.1 := fun e => hp e.symm
      refine ⟨r, ?_, ?_, ?_⟩
      · simp only [encM, List.map_cons, afind, sameS, hp', decide_false]
        exact h1
      · simp only [lookM, if_neg hp]
        exact h2
      · cases r with
        | none =>
          intro v
          have := h3 v
          simp only [encM, List.map_cons, putM, if_neg hp, List.cons_append] at this ⊢
          rw [this]
        | some q =>
          obtain ⟨j, z⟩ := q
          simp only at h3 ⊢
          refine ⟨by omega, fun v => ?_⟩
          have := h3.2 v
          obtain ⟨q, hq⟩ : ∃ q, j - i = q + 1 := ⟨j - i - 1, by omega⟩
          have hq2 : j - (i + 1) = q := by omega
          rw [hq2] at this
          rw [hq]
          simp only [encM, List.map_cons, putM, if_neg hp, List.set_cons_succ] at this ⊢
          rw [this]
theorem skS : simpleKey Tryz.prog 9 = some .string := by
  unfold simpleKey
  rw [Tryz.underlying9]
theorem zeroI : ((Tryz.prog.info? 3).bind (·.zero)) = some (.int .i64 0) := by kernel_rfl
theorem look_sI {H : List Blk} {x : AV} {m : SM} {s : ByteArray} (hm : mapOf H x = some (encM m)) : aLook Tryz.prog H 84 x (.sc (.string s)) false = some (.val (.sc (.int .i64 (lookM m s)))) := by
  obtain ⟨r, h1, h2, _⟩ := afind_enc s m 0
  obtain ⟨i, hi, hz⟩ := Option.bind_eq_some_iff.1 zeroI
  unfold aLook
  rw [Tryz.underlying84]
  simp only [skS, hm, akey, hi, hz, h1, h2, Bool.false_eq_true, if_false]
theorem put_sI {H : List Blk} {b : Nat} {blk : Blk} {m : SM} {s : ByteArray} {v : Int} (hm : H[b]? = some ⟨0, 0, 0, false, [], .map (encM m)⟩) : aPutM Tryz.prog H 84 (.mp b 0) (.sc (.string s)) (.sc (.int .i64 v)) = some (.upd .bad b ⟨0, 0, 0, false, [], .map (encM (putM m s v))⟩) := by
  obtain ⟨r, h1, _, h3⟩ := afind_enc s m 0
  unfold aPutM
  rw [Tryz.underlying84]
  simp only [skS, akey, mapAt, hm, Nat.beq_refl, cond_true, h1]
  cases r with
  | none => simp only; rw [h3 v]
  | some q =>
    obtain ⟨j, z⟩ := q
    simp only at h3 ⊢
    rw [← h3.2 v, Nat.sub_zero]
theorem mapOf_mp {H : List Blk} {b : Nat} {m : SM} (hm : H[b]? = some ⟨0, 0, 0, false, [], .map (encM m)⟩) : mapOf H (.mp b 0) = some (encM m) := by
  simp only [mapOf, mapAt, hm, Nat.beq_refl, cond_true, Option.map_some]
end Go.Proofs.YtpgipdajinkdgaaGreatA
