/- A part of the proof of AdornAsks: functions of the program, run by the evaluator. -/

/- Regions that draw their order: a check on the text, under which each order comes to what the text's order comes to. -/
import Derived.Test.YtigfnhbbfbnicaaAvP
import Derived.OrdersHeld
namespace Go.Proofs.YtigfnhbbfbnicaaA
open Go Go.RowKit
set_option linter.all false
set_option linter.unusedSectionVars false
set_option linter.constructorNameAsVariable false
set_option linter.unusedVariables false
set_option linter.unusedSimpArgs false
def okDraw (P : Program) (pure_ : FuncId → Bool) (ops : Array Oper) : Bool :=
  pairsOk ops fun i => match ops[i]? with
    | some o => (touchS P o.op, modS pure_ o.op)
    | none => (false, false)
theorem mask_bit (T : List Nat) (i : Nat) : ∀ (l : List Nat), (l.foldr (fun e m => (2 ^ e ||| (T[e]?).getD 0) ||| m) 0).testBit i = true → ∃ e ∈ l, i = e ∨ anc T i e = true
  | [], h => by simp at h
  | e :: l, h => by
    simp only [List.foldr_cons, Nat.testBit_or, Bool.or_eq_true] at h
    rcases h with (h | h) | h
    · rw [Nat.testBit_two_pow] at h
      exact ⟨e, by simp, .inl (by simpa using (of_decide_eq_true h).symm)⟩
    · exact ⟨e, by simp, .inr h⟩
    · obtain ⟨e', he, h⟩ := mask_bit T i l h
      exact ⟨e', by simp [he], h⟩
section
variable {P : Program} {pure_ : FuncId → Bool} {ops : Array Oper} {T : List Nat}
theorem tab_at (hT : tabOk T ops = true) {j : Nat} {o : Oper} (ho : ops[j]? = some o) : (T[j]?).getD 0 = ancMask T o ∧ ∀ e ∈ edgesOf o, e < j := by
  have hj : j < ops.size := by rcases Nat.lt_or_ge j ops.size with h' | h'; exact h'; rw [Array.getElem?_eq_none h'] at ho; cases ho
  unfold tabOk at hT
  have := List.all_eq_true.1 hT j (by simpa using hj)
  rw [ho] at this
  simp only [Bool.and_eq_true, beq_iff_eq, List.all_eq_true, decide_eq_true_eq] at this
  exact this
theorem anc_in (hT : tabOk T ops = true) {D : Nat → Bool} (hD : ∀ j o, ops[j]? = some o → D j = true → ∀ e ∈ edgesOf o, D e = true) : ∀ (j i : Nat) (o : Oper), ops[j]? = some o → (∀ e ∈ edgesOf o, D e = true) → anc T i j = true → D i = true := by
  intro j
  induction j using Nat.strongRecOn with
  | _ j ih =>
    intro i o ho he ha
    obtain ⟨h1, h2⟩ := tab_at hT ho
    unfold anc at ha
    rw [h1] at ha
    obtain ⟨e, hm, h⟩ := mask_bit T i (edgesOf o) ha
    rcases h with rfl | h
    · exact he _ hm
    · have hlt := h2 e hm
      cases hoe : ops[e]? with
      | none =>
        have hj : j < ops.size := by rcases Nat.lt_or_ge j ops.size with h' | h'; exact h'; rw [Array.getElem?_eq_none h'] at ho; cases ho
        rw [Array.getElem?_eq_getElem (by omega)] at hoe
        cases hoe
      | some oe => exact ih e hlt i oe hoe (hD e oe hoe (he e hm)) h
def edv (ops : Array Oper) (E0 : Env) (xs : Nat → AV) (D : Nat → Bool) : Nat → Nat → AV
  | 0, t => eget E0 t
  | i + 1, t => if D i = true ∧ (ops[i]?).bind (·.dst) = some t then xs i else edv ops E0 xs D i t
theorem eget_dput {n : Nat} {E E' : Env} {dst : Option Tmp} {x : AV} (h : dput n E dst x = some E') (t : Nat) : eget E' t = if dst = some t then x else eget E t := by
  cases dst with
  | none => simp only [dput, Option.some.injEq] at h; subst h; simp
  | some d =>
    simp only [dput] at h
    split at h <;> try (cases h; done)
    cases h
    rw [eget_eput]
    by_cases e : t = d
    · subst e; simp
    · rw [if_neg e, if_neg (by intro h; injection h with h; exact e h.symm)]
theorem put_rel {w : World} {Fb : Nat → Prop} {B : BM} {n : Nat} {E E' : Env} {a : Act} {dst : Option Tmp} {x : AV} {v : Value} {g : Nat → AV} (h : dput n E dst x = some E') (hg : ∀ t, VR w Fb B (g t) (a.tmps.getD t undef)) (hs : a.tmps.size = n) (hv : VR w Fb B x v) :
    (∀ t, VR w Fb B (if dst = some t then x else g t) ((a.put dst v).tmps.getD t undef)) ∧ (a.put dst v).tmps.size = n ∧ (a.put dst v).defers = a.defers := by
  cases dst with
  | none => exact ⟨fun t => by rw [if_neg (by simp)]; exact hg t, hs, rfl⟩
  | some d =>
    simp only [dput] at h
    split at h <;> try (cases h; done)
    rename_i hd
    have hd' : d < a.tmps.size := by rw [hs]; exact hd
    refine ⟨fun t => ?_, by simp [Act.put, hs], rfl⟩
    rw [Act.put_get hd']
    by_cases e : t = d
    · subst e; rw [if_pos rfl, if_pos rfl]; exact hv
    · rw [if_neg e, if_neg (by intro h; injection h with h; exact e h.symm)]; exact hg t
end
theorem val_quiet {P : Program} {mode : FuncId → Nat} {call0 : Fun} (hC : FunOk P call0) {H H' : List Blk} {E : Env} {o : Oper} {x : AV} (hq : modS (pureOf mode) o.op = false) (h : acallH P (acall mode true call0) H (aeval E) o = some (x, H')) :
    H' = H ∨ ∃ b, H' = H ++ [b] ∧ touchS P o.op = true := by
  have plain : aopH P H (aeval E) o = some (x, H') → H' = H ∨ ∃ b, H' = H ++ [b] ∧ touchS P o.op = true := by
    intro h
    unfold aopH at h
    split at h <;> try (cases h; done)
    · cases h; exact .inl rfl
    · rename_i y b hr; cases h; exact .inr ⟨b, rfl, aop_new hr⟩
    · rename_i y i b hr; exact absurd hr (aop_quiet hq)
  unfold acallH at h
  split at h
  · rename_i c ho
    split at h
    · rename_i f args hcal
      rw [ho] at hq
      unfold callee at hcal
      split at hcal <;> try (cases hcal; done)
      rename_i y hy
      simp only [modS, hy] at hq
      split at hq <;> try (cases hq; done)
      · rename_i g e
        injection e with e
        subst e
        simp only [aeval] at hcal
        cases hcal
        have hp : pureOf mode f = true := by simpa using hq
        split at h
        · rename_i r hr
          cases h
          exact .inl (acall_pure hC hp hr).1
        · obtain ⟨_, _, e⟩ := Option.map_eq_some_iff.1 h
          cases e
          exact .inl rfl
      all_goals simp_all
    · exact plain h
  · exact plain h
section draw
variable {P : Program} {mode : FuncId → Nat} {call0 : Fun} {n N : Nat} {ops : Array Oper} {T : List Nat} {bits : Nat → Bool × Bool} {st : Nat → St} {xs : Nat → AV} {F : Nat → Prop} {w0 : World} {B0 : BM} {d0 : List Deferred} {Q : Exit → Act → World → Prop}
structure Run (P : Program) (mode : FuncId → Nat) (call0 : Fun) (n N : Nat) (ops : Array Oper) (T : List Nat) (bits : Nat → Bool × Bool) (st : Nat → St) (xs : Nat → AV) : Prop where
  size : ops.size = N
  tab : tabOk T ops = true
  pair : ∀ i j x y, i < j → ops[i]? = some x → ops[j]? = some y → anc T i j = true ∨ (x.apart ops y = true ∧ ((bits i).2 = true → (bits j).1 = false) ∧ ((bits i).1 = true → (bits j).2 = false))
  val : ∀ i o, ops[i]? = some o → aval P (acall mode true call0) ops o (st i) = some (xs i, (st (i + 1)).heap)
  env : ∀ i o, ops[i]? = some o → dput n (st i).env o.dst (xs i) = some (st (i + 1)).env
  mt : ∀ i, (bits i).2 = true → (bits i).1 = true
  heap : ∀ i o, ops[i]? = some o → (bits i).2 = false → (st (i + 1)).heap = (st i).heap ∨ ∃ b, (st (i + 1)).heap = (st i).heap ++ [b] ∧ (bits i).1 = true
  quiet : ∀ i o, ops[i]? = some o → (bits i).2 = false → awanted ops (st i).env o = some true → (∀ c f args, o.op = .call c → callee (aeval (st i).env) c = some (f, args) → pureOf mode f = true ∧ (bits i).1 = true) ∧
    (∀ x j b, aop P (st i).heap (aeval (st i).env) o ≠ some (.upd x j b)) ∧ (∀ x b, aop P (st i).heap (aeval (st i).env) o = some (.new x b) → (bits i).1 = true)
  free : ∀ i o, ops[i]? = some o → (bits i).1 = false → awanted ops (st i).env o = some true → ∀ x, aop P (st i).heap (aeval (st i).env) o = some (.val x) → ∀ H', aop P H' (aeval (st i).env) o = some (.val x)
structure Inv (n N : Nat) (ops : Array Oper) (bits : Nat → Bool × Bool) (st : Nat → St) (xs : Nat → AV) (F : Nat → Prop) (D : Nat → Bool) (p q : Nat) (w : World) (B : BM) (a : Act) : Prop where
  clos : ∀ j o, ops[j]? = some o → D j = true → ∀ e ∈ edgesOf o, D e = true
  env : ∀ t, VR w (Forb F B) B (edv ops (st 0).env xs D N t) (a.tmps.getD t undef)
  size : a.tmps.size = n
  hr : HR w F B (st q).heap
  pq : p ≤ q
  qN : q ≤ N
  seg : ∀ k, p ≤ k → k < q → (bits k).2 = false
  mods : ∀ k, k < N → (bits k).2 = true → (D k = true ↔ k < p)
  top : q = N ∨ (q < N ∧ (bits q).2 = true)
  bot : p = 0 ∨ (p - 1 < N ∧ (bits (p - 1)).2 = true)
  full : ∀ b, b < (st p).heap.length → ∃ e, B b = some e
  new : ∀ k, p ≤ k → k < q → ∀ b, (st k).heap.length ≤ b → b < (st (k + 1)).heap.length → (D k = true → ∃ e, B b = some e) ∧ (D k = false → B b = none)
variable (R : Run P mode call0 n N ops T bits st xs)
include R
theorem at_lt {i : Nat} {o : Oper} (h : ops[i]? = some o) : i < N := by
  rw [← R.size]
  rcases Nat.lt_or_ge i ops.size with h' | h'
  · exact h'
  · rw [Array.getElem?_eq_none h'] at h; cases h
theorem at_ex {i : Nat} (h : i < N) : ∃ o, ops[i]? = some o := by
  rw [← R.size] at h
  exact ⟨_, Array.getElem?_eq_getElem h⟩
omit R in
theorem next_ex : ∀ (m p : Nat), p + m = N → ∃ q, p ≤ q ∧ q ≤ N ∧ (∀ k, p ≤ k → k < q → (bits k).2 = false) ∧ (q = N ∨ (q < N ∧ (bits q).2 = true))
  | 0, p, h => ⟨N, by omega, Nat.le_refl _, fun k h1 h2 => by omega, .inl rfl⟩
  | m + 1, p, h => by
    cases hm : (bits p).2 with
    | true => exact ⟨p, Nat.le_refl _, by omega, fun k h1 h2 => by omega, .inr ⟨by omega, hm⟩⟩
    | false =>
      obtain ⟨q, h1, h2, h3, h4⟩ := next_ex m (p + 1) (by omega)
      refine ⟨q, by omega, h2, fun k hk1 hk2 => ?_, h4⟩
      by_cases e : k = p
      · subst e; exact hm
      · exact h3 k (by omega) hk2
theorem heap_pre {p q : Nat} (hs : ∀ k, p ≤ k → k < q → (bits k).2 = false) (hq : q ≤ N) : ∀ (m i : Nat), p ≤ i → i + m ≤ q → ∃ l, (st (i + m)).heap = (st i).heap ++ l
  | 0, i, _, _ => ⟨[], by simp⟩
  | m + 1, i, h1, h2 => by
    obtain ⟨l, hl⟩ := heap_pre hs hq m i h1 (by omega)
    obtain ⟨o, ho⟩ := at_ex R (i := i + m) (by omega)
    rcases R.heap (i + m) o ho (hs (i + m) (by omega) (by omega)) with e | ⟨b, e, _⟩
    · exact ⟨l, by rw [← Nat.add_assoc, e, hl]⟩
    · exact ⟨l ++ [b], by rw [← Nat.add_assoc, e, hl, List.append_assoc]⟩
end draw
end Go.Proofs.YtigfnhbbfbnicaaA
