/- A part of the proof of MagicAsks: functions of the program, run by the evaluator. -/

/- The abstract evaluator is right: the whole. -/
import Derived.Test.YtpgipdajinkdgaaGreatAvR
namespace Go.Proofs.YtpgipdajinkdgaaGreatA
open Go Go.RowKit
set_option linter.all false
set_option linter.unusedSectionVars false
set_option linter.constructorNameAsVariable false
set_option linter.unusedVariables false
set_option linter.unusedSimpArgs false
section draw
variable {P : Program} {mode : FuncId → Nat} {call0 : Fun} {n N : Nat} {ops : Array Oper} {T : List Nat} {bits : Nat → Bool × Bool} {st : Nat → St} {xs : Nat → AV} {rv : Nat → Option (Nat × Blk)} {F : Nat → Prop} {Q : Exit → Act → World → Prop}
theorem edge_after {o : Oper} {e : Nat} (h : e ∈ edgesOf o) : ∃ d ∈ o.after, Region.binds .any d = true ∧ d.on = e := by
  unfold edgesOf at h
  obtain ⟨d, hd, hx⟩ := List.mem_filterMap.1 h
  split at hx
  · rename_i hb
    cases hx
    exact ⟨d, by simpa using hd, hb, rfl⟩
  · cases hx
theorem after_edge {o : Oper} {d : Edge} (hd : d ∈ o.after) (hb : Region.binds .any d = true) : d.on ∈ edgesOf o := by
  unfold edgesOf
  exact List.mem_filterMap.2 ⟨d, by simpa using hd, by rw [if_pos hb]⟩
theorem all_in (R : Run P mode call0 n N ops T bits st xs rv) {listed : Array Bool} (hs : listed.size = N) (hr : Region.ready .any ops listed = []) : ∀ k, k < N → listed.getD k false = true := by
  intro k
  induction k using Nat.strongRecOn with
  | _ k ih =>
    intro hk
    cases hd : listed.getD k false with
    | true => rfl
    | false =>
      obtain ⟨o, ho⟩ := at_ex R hk
      have : k ∈ Region.ready .any ops listed := mem_ready.2 ⟨by
        rw [Array.getD_eq_getD_getElem?, Array.getElem?_eq_getElem (by omega)] at hd ⊢
        exact hd, o, ho, fun d hd hb => ih d.on ((tab_at R.tab ho).2 _ (after_edge hd hb)) (Nat.lt_trans ((tab_at R.tab ho).2 _ (after_edge hd hb)) hk)⟩
      rw [hr] at this
      cases this
theorem any_ok (hC : FunOk P call0) (R : Run P mode call0 n N ops T bits st xs rv) {w0 : World} {B0 : BM} {d0 : List Deferred}
    (hQ : ∀ a w B, Ext w0 B0 w B → SR w F B n (st N).env (st N).heap a → a.defers = d0 → Q .normal a w) :
    ∀ (fuel : Nat) (listed : Array Bool) (a : Act) (w : World) (B : BM) (p q : Nat), listed.size = N → listed.toList.count false ≤ fuel → Inv n N ops bits st xs rv F (fun k => listed.getD k false) p q w B a → Ext w0 B0 w B → a.defers = d0 →
      wpAny P .any ops Q fuel listed a w := by
  have fin : ∀ (listed : Array Bool) (a : Act) (w : World) (B : BM) (p q : Nat), listed.size = N → Inv n N ops bits st xs rv F (fun k => listed.getD k false) p q w B a → Ext w0 B0 w B → a.defers = d0 → (∀ k, k < N → listed.getD k false = true) → Q .normal a w := by
    intro listed a w B p q hs I hX hd hall
    have hqN : q = N := by
      rcases I.top with e | ⟨ho, hm⟩
      · exact e
      · have := (I.mods q ho hm).1 (hall q ho)
        have := I.pq
        omega
    subst hqN
    have hedv : ∀ m, m ≤ q → ∀ t, edv ops (st 0).env xs (fun k => listed.getD k false) m t = edv ops (st 0).env xs (fun _ => true) m t := by
      intro m
      induction m with
      | zero => intro _ t; rfl
      | succ m ih =>
        intro hm t
        simp only [edv]
        by_cases hd : (ops[m]?).bind (·.dst) = some t
        · rw [if_pos ⟨hall m (by omega), hd⟩, if_pos ⟨trivial, hd⟩]
        · rw [if_neg (fun h => hd h.2), if_neg (fun h => hd h.2), ih (by omega) t]
    refine hQ a w B hX ⟨fun t => ?_, I.size, I.hr, fun b hb => ?_⟩ hd
    · rw [edv_all R q (Nat.le_refl _) t, ← hedv q (Nat.le_refl _) t]
      exact I.env t
    · rcases Nat.lt_or_ge b (st p).heap.length with h | h
      · refine (I.full b h).elim id fun ⟨k, x, h1, h2⟩ => ?_
        obtain ⟨o, _, ho, _⟩ := R.rsv k _ h1
        rw [hall k (at_lt R ho)] at h2
        cases h2
      · have key : ∀ m, p + m ≤ q → b < (st (p + m)).heap.length → ∃ k, p ≤ k ∧ k < p + m ∧ (st k).heap.length ≤ b ∧ b < (st (k + 1)).heap.length := by
          intro m
          induction m with
          | zero => intro _ hb; simp at hb; omega
          | succ m ih =>
            intro hle hb
            rcases Nat.lt_or_ge b (st (p + m)).heap.length with h' | h'
            · obtain ⟨k, h1, h2, h3⟩ := ih (by omega) h'
              exact ⟨k, h1, by omega, h3⟩
            · exact ⟨p + m, by omega, by omega, h', by rw [show p + m + 1 = p + (m + 1) by omega]; exact hb⟩
        obtain ⟨k, h1, h2, h3, h4⟩ := key (q - p) (by have := I.pq; omega) (by rw [show p + (q - p) = q by have := I.pq; omega]; exact hb)
        exact (I.new k h1 (by have := I.pq; omega) b h3 h4).1 (hall k (by have := I.pq; omega))
  intro fuel
  induction fuel with
  | zero =>
    intro listed a w B p q hs hc I hX hd
    have hall : ∀ k, k < N → listed.getD k false = true := by
      intro k hk
      have h0 : listed.toList.count false = 0 := by omega
      rw [List.count_eq_zero] at h0
      cases hb : listed.getD k false with
      | true => rfl
      | false =>
        exfalso
        apply h0
        rw [Array.getD_eq_getD_getElem?, Array.getElem?_eq_getElem (by omega)] at hb
        simp only [Option.getD_some] at hb
        rw [← hb]
        simp
    refine ⟨?_, fin listed a w B p q hs I hX hd hall⟩
    cases hr : Region.ready .any ops listed with
    | nil => rfl
    | cons k r =>
      exfalso
      have hk : k ∈ Region.ready .any ops listed := by rw [hr]; simp
      obtain ⟨h1, o, ho, _⟩ := mem_ready.1 hk
      have hlt := at_lt R ho
      have h2 := hall k hlt
      rw [Array.getD_eq_getD_getElem?, Array.getElem?_eq_getElem (by omega)] at h1 h2
      simp only [Option.getD_some] at h1 h2
      rw [h1] at h2
      cases h2
  | succ fuel ih =>
    intro listed a w B p q hs hc I hX hd
    refine ⟨fun hr => fin listed a w B p q hs I hX hd (all_in R hs hr), fun i hi => ?_⟩
    obtain ⟨h1, o, ho, hall⟩ := mem_ready.1 hi
    have hlt := at_lt R ho
    have hsz : i < listed.size := by omega
    have hDi : listed.getD i false = false := by
      rw [Array.getD_eq_getD_getElem?, Array.getElem?_eq_getElem hsz] at h1 ⊢
      exact h1
    refine any_step hC R I ho hDi (fun e hm => by
      obtain ⟨d, hd1, hd2, rfl⟩ := edge_after hm
      exact hall d hd1 hd2) (fun a' w' B' p' q' I' hX' hd' => ?_)
    have hD' : (fun k => (listed.setIfInBounds i true).getD k false) = more (fun k => listed.getD k false) i := by
      funext k
      simp only [more, Array.getD_eq_getD_getElem?, Array.getElem?_setIfInBounds]
      by_cases e : i = k
      · subst e; simp [hsz]
      · rw [if_neg e, if_neg (Ne.symm e)]
    refine ih (listed.setIfInBounds i true) a' w' B' p' q' (by simp [hs]) ?_ (by rw [hD']; exact I') (hX.trans hX') (hd'.trans hd)
    rw [Array.toList_setIfInBounds]
    have hl : i < listed.toList.length := by simpa using hsz
    have he : listed.toList[i] = false := by
      rw [Array.getD_eq_getD_getElem?, Array.getElem?_eq_getElem hsz] at hDi
      simpa using hDi
    have h0 : 0 < listed.toList.count false := List.count_pos_iff.2 (by rw [← he]; exact List.getElem_mem hl)
    have h1 : (listed.toList.set i true).count false = listed.toList.count false - 1 := by
      rw [List.count_set hl, he]
      simp
    omega
end draw
theorem run_ex {P : Program} {call : Fun} {n : Nat} {ops : Array Oper} : ∀ (m i : Nat) (s s' : St), i + m = ops.size → aops P call n ops (ops.toList.drop i) s = some s' →
    ∃ st : Nat → St, st i = s ∧ st ops.size = s' ∧ ∀ k o, i ≤ k → ops[k]? = some o → astep P call n ops o (st k) = some (st (k + 1))
  | 0, i, s, s', hm, h => by
    rw [List.drop_eq_nil_of_le (by simp; omega)] at h
    simp only [aops, Option.some.injEq] at h
    subst h
    refine ⟨fun _ => s, rfl, rfl, fun k o hk ho => ?_⟩
    rw [Array.getElem?_eq_none (by omega)] at ho
    cases ho
  | m + 1, i, s, s', hm, h => by
    have hi : i < ops.size := by omega
    rw [List.drop_eq_getElem_cons (by simpa using hi)] at h
    simp only [aops, Array.getElem_toList] at h
    split at h <;> try (cases h; done)
    rename_i s1 h1
    obtain ⟨st, e1, e2, e3⟩ := run_ex m (i + 1) s1 s' (by omega) h
    refine ⟨fun k => if k ≤ i then s else st k, by simp, by show (if ops.size ≤ i then s else st ops.size) = s'; rw [if_neg (by omega), e2], fun k o hk ho => ?_⟩
    by_cases hki : k = i
    · subst hki
      rw [Array.getElem?_eq_getElem hi] at ho
      cases ho
      show astep P call n ops ops[k] (if k ≤ k then s else st k) = some (if k + 1 ≤ k then s else st (k + 1))
      rw [if_pos (Nat.le_refl _), if_neg (by omega), e1]
      exact h1
    · show astep P call n ops o (if k ≤ i then s else st k) = some (if k + 1 ≤ i then s else st (k + 1))
      rw [if_neg (by omega), if_neg (by omega)]
      exact e3 k o (by omega) ho
theorem trace_ex {P : Program} {call : Fun} {pure_ : FuncId → Bool} {n : Nat} {ops : Array Oper} : ∀ (m i : Nat) (s s' : St) (l : List (Bool × Bool)), i + m = ops.size → trace P call pure_ n ops (ops.toList.drop i) s = some (s', l) →
    ∃ st : Nat → St, st i = s ∧ st ops.size = s' ∧ (∀ k o, i ≤ k → ops[k]? = some o → astep P call n ops o (st k) = some (st (k + 1))) ∧ (∀ k o, i ≤ k → ops[k]? = some o → l[k - i]? = some (bit P pure_ ops o (st k))) ∧ l.length = m
  | 0, i, s, s', l, hm, h => by
    rw [List.drop_eq_nil_of_le (by simp; omega)] at h
    simp only [trace, Option.some.injEq, Prod.mk.injEq] at h
    obtain ⟨rfl, rfl⟩ := h
    have hno : ∀ k o, i ≤ k → ops[k]? = some o → False := fun k o hk ho => by
      rw [Array.getElem?_eq_none (by omega)] at ho
      cases ho
    exact ⟨fun _ => s, rfl, rfl, fun k o hk ho => (hno k o hk ho).elim, fun k o hk ho => (hno k o hk ho).elim, rfl⟩
  | m + 1, i, s, s', l, hm, h => by
    have hi : i < ops.size := by omega
    rw [List.drop_eq_getElem_cons (by simpa using hi)] at h
    simp only [trace, Array.getElem_toList] at h
    split at h <;> try (cases h; done)
    rename_i s1 h1
    split at h <;> try (cases h; done)
    rename_i s2 l' h2
    simp only [Option.some.injEq, Prod.mk.injEq] at h
    obtain ⟨rfl, rfl⟩ := h
    obtain ⟨st, e1, e2, e3, e4, e5⟩ := trace_ex m (i + 1) s1 s2 l' (by omega) h2
    refine ⟨fun k => if k ≤ i then s else st k, by simp, by show (if ops.size ≤ i then s else st ops.size) = s2; rw [if_neg (by omega), e2], fun k o hk ho => ?_, fun k o hk ho => ?_, by simp [e5]⟩
    · by_cases hki : k = i
      · subst hki
        rw [Array.getElem?_eq_getElem hi] at ho
        cases ho
        show astep P call n ops ops[k] (if k ≤ k then s else st k) = some (if k + 1 ≤ k then s else st (k + 1))
        rw [if_pos (Nat.le_refl _), if_neg (by omega), e1]
        exact h1
      · show astep P call n ops o (if k ≤ i then s else st k) = some (if k + 1 ≤ i then s else st (k + 1))
        rw [if_neg (by omega), if_neg (by omega)]
        exact e3 k o (by omega) ho
    · by_cases hki : k = i
      · subst hki
        rw [Array.getElem?_eq_getElem hi] at ho
        cases ho
        show _ = some (bit P pure_ ops ops[k] (if k ≤ k then s else st k))
        rw [if_pos (Nat.le_refl _), Nat.sub_self]
        rfl
      · show _ = some (bit P pure_ ops o (if k ≤ i then s else st k))
        rw [if_neg (by omega), show k - i = (k - (i + 1)) + 1 by omega, List.getElem?_cons_succ]
        exact e4 k o (by omega) ho
section
variable {P : Program} {mode : FuncId → Nat} {call0 : Fun} {n : Nat} {ops : Array Oper} {bits : Nat → Bool × Bool} {st : Nat → St}
theorem draws_of (hmix : P.follows .mixedOrders = true) (hC : FunOk P call0) {id : Nat} (hok : pairsOk ops bits = true) {rv : Nat → Option (Nat × Blk)} {s0 : St} {pre : List Blk} (hs0 : (st 0).env = s0.env) (hpre : (st 0).heap = s0.heap ++ pre) (e3 : ∀ k o, ops[k]? = some o → rv k = none → astep P (acall mode true call0) n ops o (st k) = some (st (k + 1)))
    (e3r : ∀ k e, rv k = some e → ∃ o t, ops[k]? = some o ∧ o.op = .alloc t ∧ o.guard = none ∧ dput n (st k).env o.dst (.ptr e.1 0 0) = some (st (k + 1)).env ∧ (st (k + 1)).heap = (st k).heap ∧ bits k = (false, false) ∧ ∀ (H : List Blk) (ρ : Operand → AV), H.length = e.1 → aop P H ρ o = some (.new (.ptr e.1 0 0) e.2))
    (hrinj : ∀ i j b x y, rv i = some (b, x) → rv j = some (b, y) → i = j) (hrlt : ∀ i b x, rv i = some (b, x) → ∀ k, k ≤ ops.size → b < (st k).heap.length)
    (hrcall : ∀ k e, rv k = some e → ∀ i o c, ops[i]? = some o → (bits i).2 = true → o.op = .call c → ∃ b, c.callee = .builtin b)
    (hrpre : ∀ k b x, rv k = some (b, x) → s0.heap.length ≤ b ∧ (st 0).heap[b]? = some x) (hprer : ∀ b, s0.heap.length ≤ b → b < (st 0).heap.length → ∃ k x, rv k = some (b, x))
    (hmt : ∀ i, (bits i).2 = true → (bits i).1 = true)
    (hheap : ∀ i o, ops[i]? = some o → (bits i).2 = false → (st (i + 1)).heap = (st i).heap ∨ ∃ b, (st (i + 1)).heap = (st i).heap ++ [b] ∧ (bits i).1 = true)
    (hquiet : ∀ i o, ops[i]? = some o → rv i = none → (bits i).2 = false → awanted ops (st i).env o = some true → (∀ c f args, o.op = .call c → callee (aeval (st i).env) c = some (f, args) → pureOf mode f = true ∧ (bits i).1 = true) ∧
      (∀ x j b, aop P (st i).heap (aeval (st i).env) o ≠ some (.upd x j b)) ∧ (∀ x b, aop P (st i).heap (aeval (st i).env) o = some (.new x b) → (bits i).1 = true))
    (hfree : ∀ i o, ops[i]? = some o → rv i = none → (bits i).1 = false → awanted ops (st i).env o = some true → ∀ x, aop P (st i).heap (aeval (st i).env) o = some (.val x) → ∀ H', aop P H' (aeval (st i).env) o = some (.val x)) :
    DrawsTo P n id ops s0 (st ops.size) := by
  intro w F B a Q hS hQ
  unfold pairsOk at hok
  simp only [Bool.and_eq_true, List.all_eq_true, List.mem_range, Bool.or_eq_true] at hok
  obtain ⟨hT, hP⟩ := hok
  have hex : ∀ i, ∃ x : AV, ∀ o, ops[i]? = some o → (rv i = none → aval P (acall mode true call0) ops o (st i) = some (x, (st (i + 1)).heap)) ∧ dput n (st i).env o.dst x = some (st (i + 1)).env ∧ (∀ e, rv i = some e → x = .ptr e.1 0 0) := by
    intro i
    cases ho : ops[i]? with
    | none => exact ⟨.bad, fun o h => by cases h⟩
    | some o =>
      cases hrv : rv i with
      | some e =>
        obtain ⟨o', t, ho', _, _, hd, _⟩ := e3r i e hrv
        rw [ho] at ho'
        cases ho'
        refine ⟨.ptr e.1 0 0, fun o' h => ?_⟩
        cases h
        exact ⟨(fun h => by cases h), hd, fun e' h => by cases h; rfl⟩
      | none =>
      have h3 := e3 i o ho hrv
      unfold astep at h3
      split at h3 <;> try (cases h3; done)
      rename_i x H hv
      obtain ⟨E, hE, hst⟩ := Option.map_eq_some_iff.1 h3
      refine ⟨x, fun o' h' => ?_⟩
      cases h'
      rw [← hst]
      exact ⟨fun _ => hv, hE, fun e h => by cases h⟩
  let xs : Nat → AV := fun i => Classical.choose (hex i)
  have hxs : ∀ i o, ops[i]? = some o → (rv i = none → aval P (acall mode true call0) ops o (st i) = some (xs i, (st (i + 1)).heap)) ∧ dput n (st i).env o.dst (xs i) = some (st (i + 1)).env ∧ (∀ e, rv i = some e → xs i = .ptr e.1 0 0) := fun i => Classical.choose_spec (hex i)
  have R : Run P mode call0 n ops.size ops (mkT ops.toList []) bits st xs rv := ⟨rfl, hT, fun i j x y hij hx hy => by
    have hj : j < ops.size := by rcases Nat.lt_or_ge j ops.size with h' | h'; exact h'; rw [Array.getElem?_eq_none h'] at hy; cases hy
    have := hP j hj i hij
    rw [hx, hy] at this
    simp only [Bool.and_eq_true, Bool.not_eq_true', Bool.and_eq_false_iff] at this
    rcases this with h | ⟨⟨h1, h2⟩, h3⟩
    · exact .inl h
    · exact .inr ⟨h1, fun e => h2.resolve_left (by rw [e]; simp), fun e => h3.resolve_left (by rw [e]; simp)⟩, fun i o ho hr => (hxs i o ho).1 hr, fun i o ho => (hxs i o ho).2.1, hmt, hheap, hquiet, hfree, fun i e he => by
      obtain ⟨o, t, h1, h2, h3, h4, h5, h6, h7⟩ := e3r i e he
      exact ⟨o, t, h1, h2, h3, (hxs i o h1).2.2 e he, h5, h6, h7⟩, hrinj, hrlt, hrcall⟩
  obtain ⟨q, q1, q2, q3, q4⟩ := next_ex (N := ops.size) (bits := bits) ops.size 0 (by omega)
  have hE : Ext w B { w with drawn := w.drawn + 1 } B := ⟨rfl, rfl, rfl, Nat.le_refl _, Nat.le_succ _, fun i _ ho => ⟨rfl, ho⟩, BLe.refl B⟩
  have hlt0 : ∀ b e, B b = some e → b < s0.heap.length := fun b e hb => by
    obtain ⟨g, v1, c1⟩ := e
    obtain ⟨_, k, _⟩ := hS.hr.at_ _ _ _ _ hb
    rcases Nat.lt_or_ge b s0.heap.length with h' | h'
    · exact h'
    · rw [List.getElem?_eq_none h'] at k; cases k
  obtain ⟨l0, hl0⟩ := heap_pre R q3 q2 q 0 (Nat.le_refl _) (by omega)
  rw [Nat.zero_add] at hl0
  obtain ⟨l, hl⟩ : ∃ l, (st q).heap = s0.heap ++ l := ⟨pre ++ l0, by rw [hl0, hpre, List.append_assoc]⟩
  have hfalse : ∀ k, (Array.replicate ops.size false).getD k false = false := fun k => by
    rw [Array.getD_eq_getD_getElem?, Array.getElem?_replicate]
    split <;> rfl
  have hD : (fun k => (Array.replicate ops.size false).getD k false) = fun _ => false := funext hfalse
  have hedv : ∀ m t, edv ops (st 0).env xs (fun _ => false) m t = eget (st 0).env t := by
    intro m t
    induction m with
    | zero => rfl
    | succ m ih => simp only [edv]; rw [if_neg (fun h => by cases h.1), ih]
  refine wp_region_any hmix (any_ok hC R (w0 := w) (B0 := B) (d0 := a.defers) (fun a' w' B' hX hS' hd => hQ a' w' B' hX hS' hd) ops.size _ a _ B 0 q (by simp) (by simp [List.count_replicate]) ?_ hE rfl)
  rw [hD]
  refine ⟨(fun j o _ h => by cases h), fun t => ?_, hS.size, ⟨fun b g v c hb => ?_, fun b1 b2 g1 v1 v2 c1 c2 k1 k2 => (hS.hr.inj b1 b2 g1 v1 v2 c1 c2 k1 k2).imp (fun h => h) fun h => h.mono (by rw [hl, List.getElem?_append_left (hlt0 b1 _ k1)]) (by rw [hl, List.getElem?_append_left (hlt0 b2 _ k2)]), hS.hr.nf, hS.hr.lt⟩, Nat.zero_le _, q2, q3, fun k ho hm => ⟨(fun h => by cases h), (fun h => by omega)⟩, q4, .inl rfl, (fun b hb => by
    rcases Nat.lt_or_ge b s0.heap.length with h | h
    · exact .inl (hS.full b h)
    · obtain ⟨k, x, hk⟩ := hprer b h hb
      exact .inr ⟨k, x, hk, rfl⟩), fun k k1 k2 b k3 k4 => ⟨(fun h => by cases h), fun _ => ?_⟩, fun k b x hk _ => ?_⟩
  · rw [hedv, hs0]
    exact (hS.env t).ext hE
  · obtain ⟨blk, p1, p2, p3⟩ := hS.hr.at_ b g v c hb
    refine ⟨blk, ?_, p2, p3.ext hE rfl⟩
    rw [hl, List.getElem?_append_left (hlt0 b _ hb)]
    exact p1
  · cases hb : B b with
    | none => rfl
    | some e =>
      exfalso
      have h1 := hlt0 b e hb
      obtain ⟨l', hl'⟩ := heap_pre R q3 q2 k 0 (Nat.le_refl _) (by omega)
      rw [Nat.zero_add, hpre] at hl'
      have := congrArg List.length hl'
      simp only [List.length_append] at this
      omega
  · obtain ⟨h1, h2⟩ := hrpre k b x hk
    refine ⟨?_, ?_⟩
    · cases hb : B b with
      | none => rfl
      | some e => have := hlt0 b e hb; omega
    · rw [hl0, List.getElem?_append_left (by rcases Nat.lt_or_ge b (st 0).heap.length with h' | h'; exact h'; rw [List.getElem?_eq_none h'] at h2; cases h2)]
      exact h2
theorem mod_touch {P : Program} {pure_ : FuncId → Bool} {op : Op} (h : modS pure_ op = true) : touchS P op = true := by
  cases op <;> simp only [modS] at h <;> (try (cases h; done)) <;> simp only [touchS]
  split at h <;> simp_all
theorem heap_of {o : Oper} {s s' : St} (h : astep P (acall mode true call0) n ops o s = some s') :
    (awanted ops s.env o = some true ∧ ∃ x, acallH P (acall mode true call0) s.heap (aeval s.env) o = some (x, s'.heap)) ∨ (awanted ops s.env o = some false ∧ s'.heap = s.heap) := by
  unfold astep at h
  split at h <;> try (cases h; done)
  rename_i x H hv
  obtain ⟨E, hE, rfl⟩ := Option.map_eq_some_iff.1 h
  unfold aval at hv
  split at hv <;> try (cases hv; done)
  · rename_i hw; exact .inl ⟨hw, x, hv⟩
  · rename_i hw; injection hv with hv; injection hv with h1 h2; exact .inr ⟨hw, h2.symm⟩
end
section
variable {P : Program} {mode : FuncId → Nat} {call0 : Fun} {n : Nat} {ops : Array Oper} {o : Oper} {s s' : St}
theorem bit_mt (h : (bit P (pureOf mode) ops o s).2 = true) : (bit P (pureOf mode) ops o s).1 = true := by
  unfold bit at h ⊢
  split at h <;> try (cases h; done)
  split at h
  · rfl
  · split at h <;> first | rfl | (cases h; done)
theorem bit_heap (hC : FunOk P call0) (hs : astep P (acall mode true call0) n ops o s = some s') (hm : (bit P (pureOf mode) ops o s).2 = false) :
    s'.heap = s.heap ∨ ∃ b, s'.heap = s.heap ++ [b] ∧ (bit P (pureOf mode) ops o s).1 = true := by
  rcases heap_of hs with ⟨hw, x, hx⟩ | ⟨_, e⟩
  · unfold bit at hm ⊢
    rw [hw] at hm ⊢
    try dsimp only at hm ⊢
    unfold acallH at hx
    cases hop : o.op with
    | call c =>
      rw [hop] at hx
      simp only [hop] at hm ⊢
      cases hcal : callee (aeval s.env) c with
      | some fa =>
        obtain ⟨f, args⟩ := fa
        simp only [hcal] at hx hm ⊢
        split at hx
        · rename_i r0 hr0
          injection hx with hx
          subst hx
          exact .inl (acall_pure hC (by simpa using hm) hr0).1
        · obtain ⟨_, _, e⟩ := Option.map_eq_some_iff.1 hx
          injection e with _ e
          exact .inl e.symm
      | none =>
        simp only [hcal] at hx hm ⊢
        unfold aopH at hx
        cases hr : aop P s.heap (aeval s.env) o with
        | none => rw [hr] at hx; cases hx
        | some r =>
          rw [hr] at hx
          simp only [hr] at hm ⊢
          cases r with
          | val y => injection hx with hx; injection hx with h1 h2; exact .inl h2.symm
          | new y b => injection hx with hx; injection hx with h1 h2; exact .inr ⟨b, h2.symm, rfl⟩
          | upd y j b => cases hm
    | _ =>
      rw [hop] at hx
      simp only [hop] at hm ⊢
      unfold aopH at hx
      cases hr : aop P s.heap (aeval s.env) o with
      | none => rw [hr] at hx; cases hx
      | some r =>
        rw [hr] at hx
        simp only [hr] at hm ⊢
        cases r with
        | val y => injection hx with hx; injection hx with h1 h2; exact .inl h2.symm
        | new y b => injection hx with hx; injection hx with h1 h2; exact .inr ⟨b, h2.symm, rfl⟩
        | upd y j b => cases hm
  · exact .inl e
theorem bit_quiet (hm : (bit P (pureOf mode) ops o s).2 = false) (hw : awanted ops s.env o = some true) : (∀ c f args, o.op = .call c → callee (aeval s.env) c = some (f, args) → pureOf mode f = true ∧ (bit P (pureOf mode) ops o s).1 = true) ∧
      (∀ x j b, aop P s.heap (aeval s.env) o ≠ some (.upd x j b)) ∧ (∀ x b, aop P s.heap (aeval s.env) o = some (.new x b) → (bit P (pureOf mode) ops o s).1 = true) := by
  unfold bit at hm ⊢
  rw [hw] at hm ⊢
  try dsimp only at hm ⊢
  refine ⟨fun c f args hop hcal => ?_, fun x j b hr => ?_, fun x b hr => ?_⟩
  · simp only [hop, hcal] at hm ⊢
    exact ⟨by simpa using hm, trivial⟩
  · split at hm
    · rename_i f args hcal
      cases hop : o.op with
      | call c =>
        rw [hop] at hcal
        simp only at hcal
        have hcc : ∃ y, c.callee = .value y := by
          unfold callee at hcal
          split at hcal <;> try (cases hcal; done)
          rename_i y hy
          exact ⟨y, hy⟩
        obtain ⟨y, hy⟩ := hcc
        simp only [aop, hop, hy] at hr
        cases hr
      | _ => rw [hop] at hcal; cases hcal
    · rw [hr] at hm; cases hm
  · split
    · rfl
    · rw [hr]
theorem bit_free (hm : (bit P (pureOf mode) ops o s).1 = false) (hw : awanted ops s.env o = some true) {x : AV} (hx : aop P s.heap (aeval s.env) o = some (.val x)) (H' : List Blk) : aop P H' (aeval s.env) o = some (.val x) := by
  unfold bit at hm
  rw [hw] at hm
  try dsimp only at hm
  split at hm
  · cases hm
  · rw [hx] at hm
    exact aop_freeV hm hx
theorem step_len (hs : astep P (acall mode true call0) n ops o s = some s') (hq : ∀ c, o.op = .call c → ∃ b, c.callee = .builtin b) : s.heap.length ≤ s'.heap.length := by
  rcases heap_of hs with ⟨hw, x, hx⟩ | ⟨_, e⟩
  · have h : aopH P s.heap (aeval s.env) o = some (x, s'.heap) := by
      unfold acallH at hx
      split at hx
      · rename_i c hop
        obtain ⟨b, hb⟩ := hq c hop
        have : callee (aeval s.env) c = none := by unfold callee; rw [hb]
        rw [this] at hx
        exact hx
      · exact hx
    unfold aopH at h
    split at h <;> try (cases h; done)
    all_goals (injection h with h; injection h with h1 h2; rw [← h2]; simp)
  · rw [e]; exact Nat.le_refl _
end
theorem rsvOf_at : ∀ {rs : List Nat} {k i : Nat}, rsvOf rs k = some i → rs[i]? = some k
  | x :: xs, k, i, h => by
    simp only [rsvOf] at h
    cases hb : Nat.beq x k with
    | true =>
      rw [hb] at h
      cases h
      rw [Nat.eq_of_beq_eq_true hb]
      rfl
    | false =>
      rw [hb] at h
      simp only [cond_false] at h
      split at h <;> try (cases h; done)
      rename_i j hj
      cases h
      rw [List.getElem?_cons_succ]
      exact rsvOf_at hj
theorem preR_at {P : Program} {ops : Array Oper} : ∀ {rs : List Nat} {pre : List Blk}, preR P ops rs = some pre → pre.length = rs.length ∧ ∀ (j k : Nat), rs[j]? = some k → ∃ o t blk, ops[k]? = some o ∧ o.op = .alloc t ∧ o.guard = none ∧ pre[j]? = some blk ∧ ∀ (H : List Blk) (ρ : Operand → AV), aop P H ρ o = some (.new (.ptr H.length 0 0) blk)
  | [], pre, h => by
    simp only [preR, Option.some.injEq] at h
    subst h
    exact ⟨rfl, fun j k h => by simp at h⟩
  | k0 :: ks, pre, h => by
    simp only [preR] at h
    split at h <;> try (cases h; done)
    rename_i o ho
    split at h <;> try (cases h; done)
    rename_i t hop hg
    split at h <;> try (cases h; done)
    rename_i x blk l hr hl
    cases h
    obtain ⟨e1, e2⟩ := preR_at hl
    refine ⟨by simp [e1], fun j k hj => ?_⟩
    cases j with
    | succ j => rw [List.getElem?_cons_succ] at hj ⊢; exact e2 j k hj
    | zero =>
      simp only [List.getElem?_cons_zero, Option.some.injEq] at hj
      subst hj
      refine ⟨o, t, blk, ho, hop, hg, rfl, fun H ρ => ?_⟩
      simp only [aop, hop] at hr ⊢
      split at hr <;> try (cases hr; done)
      split at hr <;> try (cases hr; done)
      split at hr <;> try (cases hr; done)
      rename_i h1
      rw [if_pos h1]
      injection hr with hr
      injection hr with _ hr
      rw [hr]
theorem traceR_ex {P : Program} {call : Fun} {pure_ : FuncId → Bool} {n : Nat} {ops : Array Oper} {rs : List Nat} {h0 : Nat} : ∀ (m i : Nat) (s s' : St) (l : List (Bool × Bool)), i + m = ops.size → traceR P call pure_ n ops rs h0 i (ops.toList.drop i) s = some (s', l) →
    ∃ st : Nat → St, st i = s ∧ st ops.size = s' ∧ (∀ k o, i ≤ k → ops[k]? = some o → rsvOf rs k = none → astep P call n ops o (st k) = some (st (k + 1)) ∧ l[k - i]? = some (bit P pure_ ops o (st k))) ∧
      (∀ k o j, i ≤ k → ops[k]? = some o → rsvOf rs k = some j → dput n (st k).env o.dst (.ptr (h0 + j) 0 0) = some (st (k + 1)).env ∧ (st (k + 1)).heap = (st k).heap ∧ l[k - i]? = some (false, false)) ∧ l.length = m
  | 0, i, s, s', l, hm, h => by
    rw [List.drop_eq_nil_of_le (by simp; omega)] at h
    simp only [traceR, Option.some.injEq, Prod.mk.injEq] at h
    obtain ⟨rfl, rfl⟩ := h
    have hno : ∀ k o, i ≤ k → ops[k]? = some o → False := fun k o hk ho => by
      rw [Array.getElem?_eq_none (by omega)] at ho
      cases ho
    exact ⟨fun _ => s, rfl, rfl, fun k o hk ho => (hno k o hk ho).elim, fun k o j hk ho => (hno k o hk ho).elim, rfl⟩
  | m + 1, i, s, s', l, hm, h => by
    have hi : i < ops.size := by omega
    rw [List.drop_eq_getElem_cons (by simpa using hi)] at h
    simp only [traceR, Array.getElem_toList] at h
    have key : ∀ (s1 s2 : St) (b : Bool × Bool) (l' : List (Bool × Bool)), traceR P call pure_ n ops rs h0 (i + 1) (ops.toList.drop (i + 1)) s1 = some (s2, l') →
        (rsvOf rs i = none → astep P call n ops ops[i] s = some s1 ∧ b = bit P pure_ ops ops[i] s) → (∀ j, rsvOf rs i = some j → dput n s.env ops[i].dst (.ptr (h0 + j) 0 0) = some s1.env ∧ s1.heap = s.heap ∧ b = (false, false)) → s' = s2 → l = b :: l' → ∃ st : Nat → St, st i = s ∧ st ops.size = s' ∧ (∀ k o, i ≤ k → ops[k]? = some o → rsvOf rs k = none → astep P call n ops o (st k) = some (st (k + 1)) ∧ l[k - i]? = some (bit P pure_ ops o (st k))) ∧
      (∀ k o j, i ≤ k → ops[k]? = some o → rsvOf rs k = some j → dput n (st k).env o.dst (.ptr (h0 + j) 0 0) = some (st (k + 1)).env ∧ (st (k + 1)).heap = (st k).heap ∧ l[k - i]? = some (false, false)) ∧ l.length = m + 1 := by
      intro s1 s2 b l' h2 k1 k2 e1 e2
      subst e1 e2
      obtain ⟨st, e1, e2, e3, e4, e5⟩ := traceR_ex m (i + 1) s1 s' l' (by omega) h2
      have hst : ∀ k, i < k → (if k ≤ i then s else st k) = st k := fun k hk => if_neg (by omega)
      refine ⟨fun k => if k ≤ i then s else st k, if_pos (Nat.le_refl _), by show (if ops.size ≤ i then s else st ops.size) = s'; rw [hst _ hi, e2], fun k o hk ho hx => ?_, fun k o j hk ho hx => ?_, by simp [e5]⟩
      · by_cases hki : k = i
        · subst hki
          rw [Array.getElem?_eq_getElem hi] at ho
          cases ho
          obtain ⟨q1, q2⟩ := k1 hx
          refine ⟨?_, ?_⟩
          · show astep P call n ops ops[k] (if k ≤ k then s else st k) = some (if k + 1 ≤ k then s else st (k + 1))
            rw [if_pos (Nat.le_refl _), hst _ (Nat.lt_succ_self _), e1]
            exact q1
          · show _ = some (bit P pure_ ops ops[k] (if k ≤ k then s else st k))
            rw [if_pos (Nat.le_refl _), Nat.sub_self, q2]
            rfl
        · obtain ⟨q1, q2⟩ := e3 k o (by omega) ho hx
          refine ⟨?_, ?_⟩
          · show astep P call n ops o (if k ≤ i then s else st k) = some (if k + 1 ≤ i then s else st (k + 1))
            rw [hst _ (by omega), hst _ (by omega)]
            exact q1
          · show _ = some (bit P pure_ ops o (if k ≤ i then s else st k))
            rw [hst _ (by omega), show k - i = (k - (i + 1)) + 1 by omega, List.getElem?_cons_succ]
            exact q2
      · by_cases hki : k = i
        · subst hki
          rw [Array.getElem?_eq_getElem hi] at ho
          cases ho
          obtain ⟨q1, q2, q3⟩ := k2 j hx
          refine ⟨?_, ?_, ?_⟩
          · show dput n (if k ≤ k then s else st k).env _ _ = some (if k + 1 ≤ k then s else st (k + 1)).env
            rw [if_pos (Nat.le_refl _), hst _ (Nat.lt_succ_self _), e1]
            exact q1
          · show (if k + 1 ≤ k then s else st (k + 1)).heap = (if k ≤ k then s else st k).heap
            rw [if_pos (Nat.le_refl _), hst _ (Nat.lt_succ_self _), e1]
            exact q2
          · rw [Nat.sub_self, q3]
            rfl
        · obtain ⟨q1, q2, q3⟩ := e4 k o j (by omega) ho hx
          refine ⟨?_, ?_, ?_⟩
          · show dput n (if k ≤ i then s else st k).env _ _ = some (if k + 1 ≤ i then s else st (k + 1)).env
            rw [hst _ (by omega), hst _ (by omega)]
            exact q1
          · show (if k + 1 ≤ i then s else st (k + 1)).heap = (if k ≤ i then s else st k).heap
            rw [hst _ (by omega), hst _ (by omega)]
            exact q2
          · rw [show k - i = (k - (i + 1)) + 1 by omega, List.getElem?_cons_succ]
            exact q3
    split at h
    · rename_i j hj
      split at h <;> try (cases h; done)
      rename_i E hE
      split at h <;> try (cases h; done)
      rename_i s2 l' h2
      simp only [Option.some.injEq, Prod.mk.injEq] at h
      exact key ⟨E, s.heap⟩ s2 (false, false) l' h2 (fun e => by rw [hj] at e; cases e) (fun j' e => by rw [hj] at e; cases e; exact ⟨hE, rfl, rfl⟩) h.1.symm h.2.symm
    · rename_i hj
      split at h <;> try (cases h; done)
      rename_i s1 h1
      split at h <;> try (cases h; done)
      rename_i s2 l' h2
      simp only [Option.some.injEq, Prod.mk.injEq] at h
      exact key s1 s2 _ l' h2 (fun _ => ⟨h1, rfl⟩) (fun j' e => by rw [hj] at e; cases e) h.1.symm h.2.symm
theorem draw_ok {P : Program} (hmix : P.follows .mixedOrders = true) {mode : FuncId → Nat} {call0 : Fun} (hC : FunOk P call0) : DrawOk P (pureOf mode) (acall mode true call0) (okDraw P (pureOf mode)) := by
  constructor
  · intro n id ops s s' hok h
    obtain ⟨st, e1, e2, e3⟩ := run_ex (P := P) (call := acall mode true call0) (n := n) (ops := ops) ops.size 0 s s' (Nat.zero_add _) (by simpa using h)
    rw [← e1, ← e2]
    refine draws_of hmix hC hok (rv := fun _ => none) (s0 := st 0) (pre := []) rfl (by simp) (fun k o ho _ => e3 k o (Nat.zero_le _) ho) (fun _ _ h => by cases h) (fun _ _ _ _ _ h => by cases h) (fun _ _ _ h => by cases h) (fun _ _ h => by cases h) (fun _ _ _ h => by cases h) (fun b h1 h2 => by omega) (fun i hm => ?_) (fun i o ho hm => ?_) (fun i o ho _ hm hw => ?_) (fun i o ho _ hm hw x hx H' => ?_)
    · try dsimp only at hm ⊢
      split at hm
      · exact mod_touch hm
      · cases hm
    · try dsimp only at hm ⊢
      rw [ho] at hm ⊢
      rcases heap_of (e3 i o (Nat.zero_le _) ho) with ⟨_, x, hx⟩ | ⟨_, e⟩
      · exact val_quiet hC hm hx
      · exact .inl e
    · try dsimp only at hm ⊢
      rw [ho] at hm ⊢
      refine ⟨fun c f args hop hcal => ?_, fun x j b => aop_quiet hm, fun x b hr => aop_new hr⟩
      try dsimp only at hm
      rw [hop] at hm
      unfold callee at hcal
      split at hcal <;> try (cases hcal; done)
      rename_i y hy
      simp only [modS, hy] at hm
      split at hm <;> try (cases hm; done)
      · rename_i g e
        injection e with e
        subst e
        simp only [aeval] at hcal
        cases hcal
        exact ⟨by simpa using hm, by show touchS P o.op = true; rw [hop]; simp only [touchS, hy]⟩
      all_goals simp_all
    · try dsimp only at hm
      rw [ho] at hm
      rw [aop_free (H' := (st i).heap) hm]
      exact hx
  refine ⟨fun n id ops s s' l h hok => ?_, fun n id ops rs s s' x h => ?_⟩
  · obtain ⟨st, e1, e2, e3, e4, e5⟩ := trace_ex (P := P) (call := acall mode true call0) (n := n) (ops := ops) ops.size 0 s s' l (Nat.zero_add _) (by simpa using h)
    rw [← e1, ← e2]
    have hb : ∀ i o, ops[i]? = some o → (l[i]?).getD (false, false) = bit P (pureOf mode) ops o (st i) := fun i o ho => by
      have := e4 i o (Nat.zero_le _) ho
      rw [Nat.sub_zero] at this
      rw [this]; rfl
    refine draws_of hmix hC hok (rv := fun _ => none) (s0 := st 0) (pre := []) rfl (by simp) (fun k o ho _ => e3 k o (Nat.zero_le _) ho) (fun _ _ h => by cases h) (fun _ _ _ _ _ h => by cases h) (fun _ _ _ h => by cases h) (fun _ _ h => by cases h) (fun _ _ _ h => by cases h) (fun b h1 h2 => by omega) (fun i hm => ?_) (fun i o ho hm => ?_) (fun i o ho _ hm hw => ?_) (fun i o ho _ hm hw x hx H' => ?_)
    · try dsimp only at hm ⊢
      rcases Nat.lt_or_ge i ops.size with hi | hi
      · rw [hb i _ (Array.getElem?_eq_getElem hi)] at hm ⊢
        exact bit_mt hm
      · rw [List.getElem?_eq_none (by omega)] at hm
        cases hm
    all_goals
      try dsimp only at hm ⊢
      rw [hb i o ho] at hm
      try rw [hb i o ho]
    · exact bit_heap hC (e3 i o (Nat.zero_le _) ho) hm
    · exact bit_quiet hm hw
    · exact bit_free hm hw hx H'
  · unfold dynR at h
    split at h <;> try (cases h; done)
    rename_i pre hpre
    split at h <;> try (cases h; done)
    rename_i s1 l h1
    split at h <;> try (cases h; done)
    rename_i hok
    simp only [Option.some.injEq, Prod.mk.injEq] at h
    obtain ⟨rfl, rfl⟩ := h
    refine ⟨rfl, ?_⟩
    simp only [Bool.and_eq_true] at hok
    obtain ⟨⟨hok, hqc⟩, hrs⟩ := hok
    obtain ⟨hpl, hpa⟩ := preR_at hpre
    obtain ⟨st, e1, e2, e3, e4, e5⟩ := traceR_ex (P := P) (call := acall mode true call0) (n := n) (ops := ops) ops.size 0 ⟨s.env, s.heap ++ pre⟩ s1 l (Nat.zero_add _) (by simpa using h1)
    rw [← e2]
    obtain ⟨bits, hbits⟩ : ∃ bits : Nat → Bool × Bool, bits = fun i => (l[i]?).getD (false, false) := ⟨_, rfl⟩
    rw [← hbits] at hok hqc
    obtain ⟨rv, hrv⟩ : ∃ rv : Nat → Option (Nat × Blk), rv = fun k => match rsvOf rs k with | some j => (pre[j]?).map fun x => (s.heap.length + j, x) | none => none := ⟨_, rfl⟩
    have hrv0 : ∀ k, rv k = none → rsvOf rs k = none := fun k hk => by
      rw [hrv] at hk
      dsimp only at hk
      cases hi : rsvOf rs k with
      | none => rfl
      | some j =>
        rw [hi] at hk
        obtain ⟨o, t, blk, _, _, _, hp, _⟩ := hpa j k (rsvOf_at hi)
        simp only [hp] at hk
        cases hk
    have hrv1 : ∀ k b x, rv k = some (b, x) → ∃ j, rsvOf rs k = some j ∧ b = s.heap.length + j ∧ pre[j]? = some x := fun k b x hk => by
      rw [hrv] at hk
      dsimp only at hk
      split at hk <;> try (cases hk; done)
      rename_i j hj
      obtain ⟨x', hx', e⟩ := Option.map_eq_some_iff.1 hk
      injection e with e1 e2
      exact ⟨j, hj, e1.symm, by rw [← e2]; exact hx'⟩
    have hb0 : ∀ k, rv k = none → ∀ o, ops[k]? = some o → bits k = bit P (pureOf mode) ops o (st k) := fun k hk o ho => by
      have := (e3 k o (Nat.zero_le _) ho (hrv0 k hk)).2
      rw [Nat.sub_zero] at this
      rw [hbits]; dsimp only; rw [this]; rfl
    have hb1 : ∀ k e, rv k = some e → bits k = (false, false) := fun k e hk => by
      obtain ⟨b, x⟩ := e
      obtain ⟨j, hj, _, _⟩ := hrv1 k b x hk
      obtain ⟨o, _, _, ho, _⟩ := hpa j k (rsvOf_at hj)
      have := (e4 k o j (Nat.zero_le _) ho hj).2.2
      rw [Nat.sub_zero] at this
      rw [hbits]; dsimp only; rw [this]; rfl
    have hcall : ∀ i o c, ops[i]? = some o → (bits i).2 = true → o.op = .call c → ∃ b, c.callee = .builtin b := fun i o c ho hm hop => by
      unfold quietC at hqc
      rw [List.all_eq_true] at hqc
      have hi : i < ops.size := by rcases Nat.lt_or_ge i ops.size with h' | h'; exact h'; rw [Array.getElem?_eq_none h'] at ho; cases ho
      have := hqc i (List.mem_range.2 hi)
      rw [hm, ho] at this
      simp only [Bool.not_true, Bool.false_or, hop] at this
      split at this
      · rename_i b hb; exact ⟨b, hb⟩
      · cases this
    have hlen : ∀ k, k ≤ ops.size → s.heap.length + pre.length ≤ (st k).heap.length := by
      intro k
      induction k with
      | zero => intro _; rw [e1]; simp
      | succ k ih =>
        intro hk
        refine Nat.le_trans (ih (by omega)) ?_
        obtain ⟨o, ho⟩ : ∃ o, ops[k]? = some o := ⟨_, Array.getElem?_eq_getElem (by omega)⟩
        cases hr : rv k with
        | some e =>
          obtain ⟨b, x⟩ := e
          obtain ⟨j, hj, _, _⟩ := hrv1 k b x hr
          rw [(e4 k o j (Nat.zero_le _) ho hj).2.1]
          exact Nat.le_refl _
        | none =>
          have hs := (e3 k o (Nat.zero_le _) ho (hrv0 k hr)).1
          cases hm : (bits k).2 with
          | true => exact step_len hs (fun c hop => hcall k o c ho hm hop)
          | false =>
            rw [hb0 k hr o ho] at hm
            rcases bit_heap hC hs hm with e | ⟨b, e, _⟩
            · rw [e]; exact Nat.le_refl _
            · rw [e]; simp
    refine draws_of hmix hC hok (rv := rv) (s0 := s) (pre := pre) (by rw [e1]) (by rw [e1]) (fun k o ho hr => (e3 k o (Nat.zero_le _) ho (hrv0 k hr)).1) (fun k e hr => ?_) (fun i j b x y hi hj => ?_) (fun i b x hi k hk => ?_) (fun _ _ _ i o c ho hm hop => hcall i o c ho hm hop) (fun k b x hk => ?_) (fun b h1 h2 => ?_) (fun i hm => ?_) (fun i o ho hm => ?_) (fun i o ho hr hm hw => ?_) (fun i o ho hr hm hw x hx H' => ?_)
    · obtain ⟨b, x⟩ := e
      obtain ⟨j, hj, rfl, hx⟩ := hrv1 k b x hr
      obtain ⟨o, t, blk, ho, hop, hg, hp, ha⟩ := hpa j k (rsvOf_at hj)
      rw [hx] at hp
      cases hp
      obtain ⟨q1, q2, q3⟩ := e4 k o j (Nat.zero_le _) ho hj
      exact ⟨o, t, ho, hop, hg, q1, q2, hb1 k _ hr, fun H ρ hH => by rw [ha H ρ, hH]⟩
    · obtain ⟨j1, q1, q2, _⟩ := hrv1 i b x hi
      obtain ⟨j2, p1, p2, _⟩ := hrv1 j b y hj
      have e : j1 = j2 := by omega
      subst e
      have h1 := rsvOf_at q1
      rw [rsvOf_at p1] at h1
      cases h1
      rfl
    · obtain ⟨j, q1, rfl, q3⟩ := hrv1 i b x hi
      have := hlen k hk
      have : j < pre.length := by rcases Nat.lt_or_ge j pre.length with h' | h'; exact h'; rw [List.getElem?_eq_none h'] at q3; cases q3
      omega
    · obtain ⟨j, q1, rfl, q3⟩ := hrv1 k b x hk
      refine ⟨Nat.le_add_right _ _, ?_⟩
      rw [e1]
      show (s.heap ++ pre)[_]? = _
      rw [List.getElem?_append_right (Nat.le_add_right _ _), Nat.add_sub_cancel_left]
      exact q3
    · rw [e1] at h2
      simp only [List.length_append] at h2
      obtain ⟨j, rfl⟩ : ∃ j, b = s.heap.length + j := ⟨b - s.heap.length, by omega⟩
      have hj : j < rs.length := by omega
      unfold rsOk at hrs
      rw [List.all_eq_true] at hrs
      have := hrs j (List.mem_range.2 hj)
      rw [List.getElem?_eq_getElem hj] at this
      simp only at this
      split at this
      · rename_i i hi
        have e := Nat.eq_of_beq_eq_true this
        subst e
        obtain ⟨o, t, blk, _, _, _, hp, _⟩ := hpa i rs[i] (rsvOf_at hi)
        exact ⟨rs[i], blk, by rw [hrv]; dsimp only; rw [hi]; simp only [hp, Option.map_some]⟩
      · cases this
    · cases hr : rv i with
      | some e => rw [hb1 i e hr] at hm; cases hm
      | none =>
        rcases Nat.lt_or_ge i ops.size with hi | hi
        · rw [hb0 i hr _ (Array.getElem?_eq_getElem hi)] at hm ⊢
          exact bit_mt hm
        · rw [hbits] at hm
          dsimp only at hm
          rw [List.getElem?_eq_none (by omega)] at hm
          cases hm
    · cases hr : rv i with
      | some e =>
        obtain ⟨b, x⟩ := e
        obtain ⟨j, hj, _, _⟩ := hrv1 i b x hr
        exact .inl (e4 i o j (Nat.zero_le _) ho hj).2.1
      | none =>
        rw [hb0 i hr o ho] at hm ⊢
        exact bit_heap hC (e3 i o (Nat.zero_le _) ho (hrv0 i hr)).1 hm
    · rw [hb0 i hr o ho] at hm ⊢
      exact bit_quiet hm hw
    · rw [hb0 i hr o ho] at hm
      exact bit_free hm hw hx H'
structure Fit (P : Program) (C : Cfg) : Prop where
  mix : P.follows .mixedOrders = true
  name : ∀ (f : FuncId) (fn : Func), P.funcs[f]? = some fn → fn.name ≠ "runtime.NumGoroutine"
  use : ∀ (f : FuncId) (fn : Func) (c : Code), C.use f = true → P.funcs[f]? = some fn → fn.body = some c → regs (okDraw P (pureOf C.mode)) (C.dyn f) c = true
  prim : PrimOk P C
theorem right {P : Program} {C : Cfg} (h : Fit P C) (k : Nat) : FunOk P (arun P C k) :=
  arun_ok h.name h.prim (fun call hC => draw_ok h.mix hC) h.use k
end Go.Proofs.YtpgipdajinkdgaaGreatA
