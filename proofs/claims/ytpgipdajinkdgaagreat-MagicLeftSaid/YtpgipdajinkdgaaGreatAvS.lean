/- A part of the proof of MagicLeft: functions of the program, run by the evaluator. -/

/- The abstract evaluator is right: the whole. -/
import Derived.Test.YtpgipdajinkdgaaGreatAvR
namespace Go.Proofs.YtpgipdajinkdgaaGreatA
open Go Go.RowKit
set_option linter.all false
set_option linter.unusedSectionVars false
set_option linter.constructorNameAsVariable false
set_option linter.unusedVariables false
set_option linter.unusedSimpArgs false
section draw
variable {P : Program} {mode : FuncId → Nat} {call0 : Fun} {n N : Nat} {ops : Array Oper} {T : List Nat} {bits : Nat → Bool × Bool} {st : Nat → St} {xs : Nat → AV} {F : Nat → Prop} {Q : Exit → Act → World → Prop}
theorem edge_after {o : Oper} {e : Nat} (h : e ∈ edgesOf o) : ∃ d ∈ o.after, Region.binds .any d = true ∧ d.on = e := by
  unfold edgesOf at h
  obtain ⟨d, hd, hx⟩ := List.mem_filterMap.1 h
  split at hx
  · rename_i hb
    cases hx
    exact ⟨d, by simpa using hd, hb, rfl⟩
  · cases hx
theorem after_edge {o : Oper} {d : Edge} (hd : d ∈ o.after) (hb : Region.binds .any d = true) : d.on ∈ edgesOf o := by
  unfold edgesOf
  exact List.mem_filterMap.2 ⟨d, by simpa using hd, by rw [if_pos hb]⟩
theorem all_in (R : Run P mode call0 n N ops T bits st xs) {listed : Array Bool} (hs : listed.size = N) (hr : Region.ready .any ops listed = []) : ∀ k, k < N → listed.getD k false = true := by
  intro k
  induction k using Nat.strongRecOn with
  | _ k ih =>
    intro hk
    cases hd : listed.getD k false with
    | true => rfl
    | false =>
      obtain ⟨o, ho⟩ := at_ex R hk
      have : k ∈ Region.ready .any ops listed := mem_ready.2 ⟨by
        rw [Array.getD_eq_getD_getElem?, Array.getElem?_eq_getElem (by omega)] at hd ⊢
        exact hd, o, ho, fun d hd hb => ih d.on ((tab_at R.tab ho).2 _ (after_edge hd hb)) (Nat.lt_trans ((tab_at R.tab ho).2 _ (after_edge hd hb)) hk)⟩
      rw [hr] at this
      cases this
theorem any_ok (hC : FunOk P call0) (R : Run P mode call0 n N ops T bits st xs) {w0 : World} {B0 : BM} {d0 : List Deferred}
    (hQ : ∀ a w B, Ext w0 B0 w B → SR w F B n (st N).env (st N).heap a → a.defers = d0 → Q .normal a w) :
    ∀ (fuel : Nat) (listed : Array Bool) (a : Act) (w : World) (B : BM) (p q : Nat), listed.size = N → listed.toList.count false ≤ fuel → Inv n N ops bits st xs F (fun k => listed.getD k false) p q w B a → Ext w0 B0 w B → a.defers = d0 →
      wpAny P .any ops Q fuel listed a w := by
  have fin : ∀ (listed : Array Bool) (a : Act) (w : World) (B : BM) (p q : Nat), listed.size = N → Inv n N ops bits st xs F (fun k => listed.getD k false) p q w B a → Ext w0 B0 w B → a.defers = d0 → (∀ k, k < N → listed.getD k false = true) → Q .normal a w := by
    intro listed a w B p q hs I hX hd hall
    have hqN : q = N := by
      rcases I.top with e | ⟨ho, hm⟩
      · exact e
      · have := (I.mods q ho hm).1 (hall q ho)
        have := I.pq
        omega
    subst hqN
    have hedv : ∀ m, m ≤ q → ∀ t, edv ops (st 0).env xs (fun k => listed.getD k false) m t = edv ops (st 0).env xs (fun _ => true) m t := by
      intro m
      induction m with
      | zero => intro _ t; rfl
      | succ m ih =>
        intro hm t
        simp only [edv]
        by_cases hd : (ops[m]?).bind (·.dst) = some t
        · rw [if_pos ⟨hall m (by omega), hd⟩, if_pos ⟨trivial, hd⟩]
        · rw [if_neg (fun h => hd h.2), if_neg (fun h => hd h.2), ih (by omega) t]
    refine hQ a w B hX ⟨fun t => ?_, I.size, I.hr, fun b hb => ?_⟩ hd
    · rw [edv_all R q (Nat.le_refl _) t, ← hedv q (Nat.le_refl _) t]
      exact I.env t
    · rcases Nat.lt_or_ge b (st p).heap.length with h | h
      · exact I.full b h
      · have key : ∀ m, p + m ≤ q → b < (st (p + m)).heap.length → ∃ k, p ≤ k ∧ k < p + m ∧ (st k).heap.length ≤ b ∧ b < (st (k + 1)).heap.length := by
          intro m
          induction m with
          | zero => intro _ hb; simp at hb; omega
          | succ m ih =>
            intro hle hb
            rcases Nat.lt_or_ge b (st (p + m)).heap.length with h' | h'
            · obtain ⟨k, h1, h2, h3⟩ := ih (by omega) h'
              exact ⟨k, h1, by omega, h3⟩
            · exact ⟨p + m, by omega, by omega, h', by rw [show p + m + 1 = p + (m + 1) by omega]; exact hb⟩
        obtain ⟨k, h1, h2, h3, h4⟩ := key (q - p) (by have := I.pq; omega) (by rw [show p + (q - p) = q by have := I.pq; omega]; exact hb)
        exact (I.new k h1 (by have := I.pq; omega) b h3 h4).1 (hall k (by have := I.pq; omega))
  intro fuel
  induction fuel with
  | zero =>
    intro listed a w B p q hs hc I hX hd
    have hall : ∀ k, k < N → listed.getD k false = true := by
      intro k hk
      have h0 : listed.toList.count false = 0 := by omega
      rw [List.count_eq_zero] at h0
      cases hb : listed.getD k false with
      | true => rfl
      | false =>
        exfalso
        apply h0
        rw [Array.getD_eq_getD_getElem?, Array.getElem?_eq_getElem (by omega)] at hb
        simp only [Option.getD_some] at hb
        rw [← hb]
        simp
    refine ⟨?_, fin listed a w B p q hs I hX hd hall⟩
    cases hr : Region.ready .any ops listed with
    | nil => rfl
    | cons k r =>
      exfalso
      have hk : k ∈ Region.ready .any ops listed := by rw [hr]; simp
      obtain ⟨h1, o, ho, _⟩ := mem_ready.1 hk
      have hlt := at_lt R ho
      have h2 := hall k hlt
      rw [Array.getD_eq_getD_getElem?, Array.getElem?_eq_getElem (by omega)] at h1 h2
      simp only [Option.getD_some] at h1 h2
      rw [h1] at h2
      cases h2
  | succ fuel ih =>
    intro listed a w B p q hs hc I hX hd
    refine ⟨fun hr => fin listed a w B p q hs I hX hd (all_in R hs hr), fun i hi => ?_⟩
    obtain ⟨h1, o, ho, hall⟩ := mem_ready.1 hi
    have hlt := at_lt R ho
    have hsz : i < listed.size := by omega
    have hDi : listed.getD i false = false := by
      rw [Array.getD_eq_getD_getElem?, Array.getElem?_eq_getElem hsz] at h1 ⊢
      exact h1
    refine any_step hC R I ho hDi (fun e hm => by
      obtain ⟨d, hd1, hd2, rfl⟩ := edge_after hm
      exact hall d hd1 hd2) (fun a' w' B' p' q' I' hX' hd' => ?_)
    have hD' : (fun k => (listed.setIfInBounds i true).getD k false) = more (fun k => listed.getD k false) i := by
      funext k
      simp only [more, Array.getD_eq_getD_getElem?, Array.getElem?_setIfInBounds]
      by_cases e : i = k
      · subst e; simp [hsz]
      · rw [if_neg e, if_neg (Ne.symm e)]
    refine ih (listed.setIfInBounds i true) a' w' B' p' q' (by simp [hs]) ?_ (by rw [hD']; exact I') (hX.trans hX') (hd'.trans hd)
    rw [Array.toList_setIfInBounds]
    have hl : i < listed.toList.length := by simpa using hsz
    have he : listed.toList[i] = false := by
      rw [Array.getD_eq_getD_getElem?, Array.getElem?_eq_getElem hsz] at hDi
      simpa using hDi
    have h0 : 0 < listed.toList.count false := List.count_pos_iff.2 (by rw [← he]; exact List.getElem_mem hl)
    have h1 : (listed.toList.set i true).count false = listed.toList.count false - 1 := by
      rw [List.count_set hl, he]
      simp
    omega
end draw
theorem run_ex {P : Program} {call : Fun} {n : Nat} {ops : Array Oper} : ∀ (m i : Nat) (s s' : St), i + m = ops.size → aops P call n ops (ops.toList.drop i) s = some s' →
    ∃ st : Nat → St, st i = s ∧ st ops.size = s' ∧ ∀ k o, i ≤ k → ops[k]? = some o → astep P call n ops o (st k) = some (st (k + 1))
  | 0, i, s, s', hm, h => by
    rw [List.drop_eq_nil_of_le (by simp; omega)] at h
    simp only [aops, Option.some.injEq] at h
    subst h
    refine ⟨fun _ => s, rfl, rfl, fun k o hk ho => ?_⟩
    rw [Array.getElem?_eq_none (by omega)] at ho
    cases ho
  | m + 1, i, s, s', hm, h => by
    have hi : i < ops.size := by omega
    rw [List.drop_eq_getElem_cons (by simpa using hi)] at h
    simp only [aops, Array.getElem_toList] at h
    split at h <;> try (cases h; done)
    rename_i s1 h1
    obtain ⟨st, e1, e2, e3⟩ := run_ex m (i + 1) s1 s' (by omega) h
    refine ⟨fun k => if k ≤ i then s else st k, by simp, by show (if ops.size ≤ i then s else st ops.size) = s'; rw [if_neg (by omega), e2], fun k o hk ho => ?_⟩
    by_cases hki : k = i
    · subst hki
      rw [Array.getElem?_eq_getElem hi] at ho
      cases ho
      show astep P call n ops ops[k] (if k ≤ k then s else st k) = some (if k + 1 ≤ k then s else st (k + 1))
      rw [if_pos (Nat.le_refl _), if_neg (by omega), e1]
      exact h1
    · show astep P call n ops o (if k ≤ i then s else st k) = some (if k + 1 ≤ i then s else st (k + 1))
      rw [if_neg (by omega), if_neg (by omega)]
      exact e3 k o (by omega) ho
theorem trace_ex {P : Program} {call : Fun} {pure_ : FuncId → Bool} {n : Nat} {ops : Array Oper} : ∀ (m i : Nat) (s s' : St) (l : List (Bool × Bool)), i + m = ops.size → trace P call pure_ n ops (ops.toList.drop i) s = some (s', l) →
    ∃ st : Nat → St, st i = s ∧ st ops.size = s' ∧ (∀ k o, i ≤ k → ops[k]? = some o → astep P call n ops o (st k) = some (st (k + 1))) ∧ (∀ k o, i ≤ k → ops[k]? = some o → l[k - i]? = some (bit P pure_ ops o (st k))) ∧ l.length = m
  | 0, i, s, s', l, hm, h => by
    rw [List.drop_eq_nil_of_le (by simp; omega)] at h
    simp only [trace, Option.some.injEq, Prod.mk.injEq] at h
    obtain ⟨rfl, rfl⟩ := h
    have hno : ∀ k o, i ≤ k → ops[k]? = some o → False := fun k o hk ho => by
      rw [Array.getElem?_eq_none (by omega)] at ho
      cases ho
    exact ⟨fun _ => s, rfl, rfl, fun k o hk ho => (hno k o hk ho).elim, fun k o hk ho => (hno k o hk ho).elim, rfl⟩
  | m + 1, i, s, s', l, hm, h => by
    have hi : i < ops.size := by omega
    rw [List.drop_eq_getElem_cons (by simpa using hi)] at h
    simp only [trace, Array.getElem_toList] at h
    split at h <;> try (cases h; done)
    rename_i s1 h1
    split at h <;> try (cases h; done)
    rename_i s2 l' h2
    simp only [Option.some.injEq, Prod.mk.injEq] at h
    obtain ⟨rfl, rfl⟩ := h
    obtain ⟨st, e1, e2, e3, e4, e5⟩ := trace_ex m (i + 1) s1 s2 l' (by omega) h2
    refine ⟨fun k => if k ≤ i then s else st k, by simp, by show (if ops.size ≤ i then s else st ops.size) = s2; rw [if_neg (by omega), e2], fun k o hk ho => ?_, fun k o hk ho => ?_, by simp [e5]⟩
    · by_cases hki : k = i
      · subst hki
        rw [Array.getElem?_eq_getElem hi] at ho
        cases ho
        show astep P call n ops ops[k] (if k ≤ k then s else st k) = some (if k + 1 ≤ k then s else st (k + 1))
        rw [if_pos (Nat.le_refl _), if_neg (by omega), e1]
        exact h1
      · show astep P call n ops o (if k ≤ i then s else st k) = some (if k + 1 ≤ i then s else st (k + 1))
        rw [if_neg (by omega), if_neg (by omega)]
        exact e3 k o (by omega) ho
    · by_cases hki : k = i
      · subst hki
        rw [Array.getElem?_eq_getElem hi] at ho
        cases ho
        show _ = some (bit P pure_ ops ops[k] (if k ≤ k then s else st k))
        rw [if_pos (Nat.le_refl _), Nat.sub_self]
        rfl
      · show _ = some (bit P pure_ ops o (if k ≤ i then s else st k))
        rw [if_neg (by omega), show k - i = (k - (i + 1)) + 1 by omega, List.getElem?_cons_succ]
        exact e4 k o (by omega) ho
section
variable {P : Program} {mode : FuncId → Nat} {call0 : Fun} {n : Nat} {ops : Array Oper} {bits : Nat → Bool × Bool} {st : Nat → St}
theorem draws_of (hmix : P.follows .mixedOrders = true) (hC : FunOk P call0) {id : Nat} (hok : pairsOk ops bits = true) (e3 : ∀ k o, ops[k]? = some o → astep P (acall mode true call0) n ops o (st k) = some (st (k + 1)))
    (hmt : ∀ i, (bits i).2 = true → (bits i).1 = true)
    (hheap : ∀ i o, ops[i]? = some o → (bits i).2 = false → (st (i + 1)).heap = (st i).heap ∨ ∃ b, (st (i + 1)).heap = (st i).heap ++ [b] ∧ (bits i).1 = true)
    (hquiet : ∀ i o, ops[i]? = some o → (bits i).2 = false → awanted ops (st i).env o = some true → (∀ c f args, o.op = .call c → callee (aeval (st i).env) c = some (f, args) → pureOf mode f = true ∧ (bits i).1 = true) ∧
      (∀ x j b, aop P (st i).heap (aeval (st i).env) o ≠ some (.upd x j b)) ∧ (∀ x b, aop P (st i).heap (aeval (st i).env) o = some (.new x b) → (bits i).1 = true))
    (hfree : ∀ i o, ops[i]? = some o → (bits i).1 = false → awanted ops (st i).env o = some true → ∀ x, aop P (st i).heap (aeval (st i).env) o = some (.val x) → ∀ H', aop P H' (aeval (st i).env) o = some (.val x)) :
    DrawsTo P n id ops (st 0) (st ops.size) := by
  intro w F B a Q hS hQ
  unfold pairsOk at hok
  simp only [Bool.and_eq_true, List.all_eq_true, List.mem_range, Bool.or_eq_true] at hok
  obtain ⟨hT, hP⟩ := hok
  have hex : ∀ i, ∃ x : AV, ∀ o, ops[i]? = some o → aval P (acall mode true call0) ops o (st i) = some (x, (st (i + 1)).heap) ∧ dput n (st i).env o.dst x = some (st (i + 1)).env := by
    intro i
    cases ho : ops[i]? with
    | none => exact ⟨.bad, fun o h => by cases h⟩
    | some o =>
      have h3 := e3 i o ho
      unfold astep at h3
      split at h3 <;> try (cases h3; done)
      rename_i x H hv
      obtain ⟨E, hE, hst⟩ := Option.map_eq_some_iff.1 h3
      refine ⟨x, fun o' h' => ?_⟩
      cases h'
      rw [← hst]
      exact ⟨hv, hE⟩
  let xs : Nat → AV := fun i => Classical.choose (hex i)
  have hxs : ∀ i o, ops[i]? = some o → aval P (acall mode true call0) ops o (st i) = some (xs i, (st (i + 1)).heap) ∧ dput n (st i).env o.dst (xs i) = some (st (i + 1)).env := fun i => Classical.choose_spec (hex i)
  have R : Run P mode call0 n ops.size ops (mkT ops.toList []) bits st xs := ⟨rfl, hT, fun i j x y hij hx hy => by
    have hj : j < ops.size := by rcases Nat.lt_or_ge j ops.size with h' | h'; exact h'; rw [Array.getElem?_eq_none h'] at hy; cases hy
    have := hP j hj i hij
    rw [hx, hy] at this
    simp only [Bool.and_eq_true, Bool.not_eq_true', Bool.and_eq_false_iff] at this
    rcases this with h | ⟨⟨h1, h2⟩, h3⟩
    · exact .inl h
    · exact .inr ⟨h1, fun e => h2.resolve_left (by rw [e]; simp), fun e => h3.resolve_left (by rw [e]; simp)⟩, fun i o ho => (hxs i o ho).1, fun i o ho => (hxs i o ho).2, hmt, hheap, hquiet, hfree⟩
  obtain ⟨q, q1, q2, q3, q4⟩ := next_ex (N := ops.size) (bits := bits) ops.size 0 (by omega)
  have hE : Ext w B { w with drawn := w.drawn + 1 } B := ⟨rfl, rfl, rfl, Nat.le_refl _, Nat.le_succ _, fun i _ ho => ⟨rfl, ho⟩, BLe.refl B⟩
  have hlt : ∀ b e, B b = some e → b < (st 0).heap.length := fun b e hb => by
    obtain ⟨g, v1, c1⟩ := e
    obtain ⟨_, k, _⟩ := hS.hr.at_ _ _ _ _ hb
    rcases Nat.lt_or_ge b (st 0).heap.length with h' | h'
    · exact h'
    · rw [List.getElem?_eq_none h'] at k; cases k
  obtain ⟨l, hl⟩ := heap_pre R q3 q2 q 0 (Nat.le_refl _) (by omega)
  rw [Nat.zero_add] at hl
  have hfalse : ∀ k, (Array.replicate ops.size false).getD k false = false := fun k => by
    rw [Array.getD_eq_getD_getElem?, Array.getElem?_replicate]
    split <;> rfl
  have hD : (fun k => (Array.replicate ops.size false).getD k false) = fun _ => false := funext hfalse
  have hedv : ∀ m t, edv ops (st 0).env xs (fun _ => false) m t = eget (st 0).env t := by
    intro m t
    induction m with
    | zero => rfl
    | succ m ih => simp only [edv]; rw [if_neg (fun h => by cases h.1), ih]
  refine wp_region_any hmix (any_ok hC R (w0 := w) (B0 := B) (d0 := a.defers) (fun a' w' B' hX hS' hd => hQ a' w' B' hX hS' hd) ops.size _ a _ B 0 q (by simp) (by simp [List.count_replicate]) ?_ hE rfl)
  rw [hD]
  refine ⟨(fun j o _ h => by cases h), fun t => ?_, hS.size, ⟨fun b g v c hb => ?_, fun b1 b2 g1 v1 v2 c1 c2 k1 k2 => (hS.hr.inj b1 b2 g1 v1 v2 c1 c2 k1 k2).imp (fun h => h) fun h => h.mono (by rw [hl, List.getElem?_append_left (hlt b1 _ k1)]) (by rw [hl, List.getElem?_append_left (hlt b2 _ k2)]), hS.hr.nf, hS.hr.lt⟩, Nat.zero_le _, q2, q3, fun k ho hm => ⟨(fun h => by cases h), (fun h => by omega)⟩, q4, .inl rfl, fun b hb => hS.full b hb, fun k k1 k2 b k3 k4 => ⟨(fun h => by cases h), fun _ => ?_⟩⟩
  · rw [hedv]
    exact (hS.env t).ext hE
  · obtain ⟨blk, p1, p2, p3⟩ := hS.hr.at_ b g v c hb
    refine ⟨blk, ?_, p2, p3.ext hE rfl⟩
    rw [hl, List.getElem?_append_left (hlt b _ hb)]
    exact p1
  · cases hb : B b with
    | none => rfl
    | some e =>
      exfalso
      have h1 := hlt b e hb
      obtain ⟨l', hl'⟩ := heap_pre R q3 q2 k 0 (Nat.le_refl _) (by omega)
      rw [Nat.zero_add] at hl'
      have := congrArg List.length hl'
      simp only [List.length_append] at this
      omega
theorem mod_touch {P : Program} {pure_ : FuncId → Bool} {op : Op} (h : modS pure_ op = true) : touchS P op = true := by
  cases op <;> simp only [modS] at h <;> (try (cases h; done)) <;> simp only [touchS]
  split at h <;> simp_all
theorem heap_of {o : Oper} {s s' : St} (h : astep P (acall mode true call0) n ops o s = some s') :
    (awanted ops s.env o = some true ∧ ∃ x, acallH P (acall mode true call0) s.heap (aeval s.env) o = some (x, s'.heap)) ∨ (awanted ops s.env o = some false ∧ s'.heap = s.heap) := by
  unfold astep at h
  split at h <;> try (cases h; done)
  rename_i x H hv
  obtain ⟨E, hE, rfl⟩ := Option.map_eq_some_iff.1 h
  unfold aval at hv
  split at hv <;> try (cases hv; done)
  · rename_i hw; exact .inl ⟨hw, x, hv⟩
  · rename_i hw; injection hv with hv; injection hv with h1 h2; exact .inr ⟨hw, h2.symm⟩
end
theorem draw_ok {P : Program} (hmix : P.follows .mixedOrders = true) {mode : FuncId → Nat} {call0 : Fun} (hC : FunOk P call0) : DrawOk P (pureOf mode) (acall mode true call0) (okDraw P (pureOf mode)) := by
  constructor
  · intro n id ops s s' hok h
    obtain ⟨st, e1, e2, e3⟩ := run_ex (P := P) (call := acall mode true call0) (n := n) (ops := ops) ops.size 0 s s' (Nat.zero_add _) (by simpa using h)
    rw [← e1, ← e2]
    refine draws_of hmix hC hok (fun k o ho => e3 k o (Nat.zero_le _) ho) (fun i hm => ?_) (fun i o ho hm => ?_) (fun i o ho hm hw => ?_) (fun i o ho hm hw x hx H' => ?_)
    · try dsimp only at hm ⊢
      split at hm
      · exact mod_touch hm
      · cases hm
    · try dsimp only at hm ⊢
      rw [ho] at hm ⊢
      rcases heap_of (e3 i o (Nat.zero_le _) ho) with ⟨_, x, hx⟩ | ⟨_, e⟩
      · exact val_quiet hC hm hx
      · exact .inl e
    · try dsimp only at hm ⊢
      rw [ho] at hm ⊢
      refine ⟨fun c f args hop hcal => ?_, fun x j b => aop_quiet hm, fun x b hr => aop_new hr⟩
      try dsimp only at hm
      rw [hop] at hm
      unfold callee at hcal
      split at hcal <;> try (cases hcal; done)
      rename_i y hy
      simp only [modS, hy] at hm
      split at hm <;> try (cases hm; done)
      · rename_i g e
        injection e with e
        subst e
        simp only [aeval] at hcal
        cases hcal
        exact ⟨by simpa using hm, by show touchS P o.op = true; rw [hop]; simp only [touchS, hy]⟩
      all_goals simp_all
    · try dsimp only at hm
      rw [ho] at hm
      rw [aop_free (H' := (st i).heap) hm]
      exact hx
  · intro n id ops s s' l h hok
    obtain ⟨st, e1, e2, e3, e4, e5⟩ := trace_ex (P := P) (call := acall mode true call0) (n := n) (ops := ops) ops.size 0 s s' l (Nat.zero_add _) (by simpa using h)
    rw [← e1, ← e2]
    have hb : ∀ i o, ops[i]? = some o → (l[i]?).getD (false, false) = bit P (pureOf mode) ops o (st i) := fun i o ho => by
      have := e4 i o (Nat.zero_le _) ho
      rw [Nat.sub_zero] at this
      rw [this]; rfl
    have hmtb : ∀ o s, (bit P (pureOf mode) ops o s).2 = true → (bit P (pureOf mode) ops o s).1 = true := by
      intro o s h
      unfold bit at h ⊢
      split at h <;> try (cases h; done)
      split at h
      · rfl
      · split at h <;> first | rfl | (cases h; done)
    refine draws_of hmix hC hok (fun k o ho => e3 k o (Nat.zero_le _) ho) (fun i hm => ?_) (fun i o ho hm => ?_) (fun i o ho hm hw => ?_) (fun i o ho hm hw x hx H' => ?_)
    · try dsimp only at hm ⊢
      rcases Nat.lt_or_ge i ops.size with hi | hi
      · rw [hb i _ (Array.getElem?_eq_getElem hi)] at hm ⊢
        exact hmtb _ _ hm
      · rw [List.getElem?_eq_none (by omega)] at hm
        cases hm
    all_goals
      try dsimp only at hm ⊢
      rw [hb i o ho] at hm
      try rw [hb i o ho]
    · rcases heap_of (e3 i o (Nat.zero_le _) ho) with ⟨hw, x, hx⟩ | ⟨_, e⟩
      · unfold bit at hm ⊢
        rw [hw] at hm ⊢
        try dsimp only at hm ⊢
        unfold acallH at hx
        cases hop : o.op with
        | call c =>
          rw [hop] at hx
          simp only [hop] at hm ⊢
          cases hcal : callee (aeval (st i).env) c with
          | some fa =>
            obtain ⟨f, args⟩ := fa
            simp only [hcal] at hx hm ⊢
            split at hx
            · rename_i r0 hr0
              injection hx with hx
              subst hx
              exact .inl (acall_pure hC (by simpa using hm) hr0).1
            · obtain ⟨_, _, e⟩ := Option.map_eq_some_iff.1 hx
              injection e with _ e
              exact .inl e.symm
          | none =>
            simp only [hcal] at hx hm ⊢
            unfold aopH at hx
            cases hr : aop P (st i).heap (aeval (st i).env) o with
            | none => rw [hr] at hx; cases hx
            | some r =>
              rw [hr] at hx
              simp only [hr] at hm ⊢
              cases r with
              | val y => injection hx with hx; injection hx with h1 h2; exact .inl h2.symm
              | new y b => injection hx with hx; injection hx with h1 h2; exact .inr ⟨b, h2.symm, rfl⟩
              | upd y j b => cases hm
        | _ =>
          rw [hop] at hx
          simp only [hop] at hm ⊢
          unfold aopH at hx
          cases hr : aop P (st i).heap (aeval (st i).env) o with
          | none => rw [hr] at hx; cases hx
          | some r =>
            rw [hr] at hx
            simp only [hr] at hm ⊢
            cases r with
            | val y => injection hx with hx; injection hx with h1 h2; exact .inl h2.symm
            | new y b => injection hx with hx; injection hx with h1 h2; exact .inr ⟨b, h2.symm, rfl⟩
            | upd y j b => cases hm
      · exact .inl e
    · unfold bit at hm ⊢
      rw [hw] at hm ⊢
      try dsimp only at hm ⊢
      refine ⟨fun c f args hop hcal => ?_, fun x j b hr => ?_, fun x b hr => ?_⟩
      · simp only [hop, hcal] at hm ⊢
        exact ⟨by simpa using hm, trivial⟩
      · split at hm
        · rename_i f args hcal
          cases hop : o.op with
          | call c =>
            rw [hop] at hcal
            simp only at hcal
            have hcc : ∃ y, c.callee = .value y := by
              unfold callee at hcal
              split at hcal <;> try (cases hcal; done)
              rename_i y hy
              exact ⟨y, hy⟩
            obtain ⟨y, hy⟩ := hcc
            simp only [aop, hop, hy] at hr
            cases hr
          | _ => rw [hop] at hcal; cases hcal
        · rw [hr] at hm; cases hm
      · split
        · rfl
        · rw [hr]
    · unfold bit at hm
      rw [hw] at hm
      try dsimp only at hm
      split at hm
      · cases hm
      · rw [hx] at hm
        exact aop_freeV hm hx
structure Fit (P : Program) (C : Cfg) : Prop where
  mix : P.follows .mixedOrders = true
  name : ∀ (f : FuncId) (fn : Func), P.funcs[f]? = some fn → fn.name ≠ "runtime.NumGoroutine"
  use : ∀ (f : FuncId) (fn : Func) (c : Code), C.use f = true → P.funcs[f]? = some fn → fn.body = some c → regs (okDraw P (pureOf C.mode)) (C.dyn f) c = true
  prim : PrimOk P C
theorem right {P : Program} {C : Cfg} (h : Fit P C) (k : Nat) : FunOk P (arun P C k) :=
  arun_ok h.name h.prim (fun call hC => draw_ok h.mix hC) h.use k
end Go.Proofs.YtpgipdajinkdgaaGreatA
