/- A part of the proof of MagicAsks: functions of the program, run by the evaluator. -/

/- The abstract evaluator is right: steps, code, calls (a region that draws its order apart). -/
import Derived.Test.YtpgipdajinkdgaaGreatAvL
import Derived.Scope
namespace Go.Proofs.YtpgipdajinkdgaaGreatA
open Go Go.RowKit
set_option linter.all false
set_option linter.unusedSectionVars false
set_option linter.constructorNameAsVariable false
set_option linter.unusedVariables false
set_option linter.unusedSimpArgs false
theorem nbeq {i j : Nat} (h : i ≠ j) : Nat.beq i j = false := by
  cases hb : Nat.beq i j
  · rfl
  · exact absurd (Nat.eq_of_beq_eq_true hb) h
theorem eget_eput (d : Nat) (x : AV) : ∀ (E : Env) (t : Nat), eget (eput E d x) t = if t = d then x else eget E t
  | [], t => by
    simp only [eput, eget]
    by_cases h : t = d
    · subst h; simp
    · rw [if_neg h]; have := nbeq (Ne.symm h)
      rw [this]; rfl
  | (k, y) :: r, t => by
    simp only [eput]
    by_cases hk : k = d
    · subst hk
      have : Nat.beq k k = true := by simp
      rw [this]
      simp only [cond_true, eget]
      by_cases h : t = k
      · subst h; simp
      · rw [if_neg h]; have := nbeq (Ne.symm h)
        rw [this]; rfl
    · have := nbeq hk
      rw [this]
      simp only [cond_false, eget, eget_eput d x r t]
      by_cases h : k = t
      · subst h
        simp [hk]
      · have := nbeq h
        rw [this]; rfl
theorem eget_zip : ∀ (xs : List AV) (i t : Nat), eget (zipEnv i xs) t = if i ≤ t then (xs[t - i]?).getD .bad else .bad
  | [], i, t => by simp [zipEnv, eget]
  | x :: xs, i, t => by
    simp only [zipEnv, eget]
    by_cases h : i = t
    · subst h; simp
    · have := nbeq h
      rw [this]
      simp only [cond_false, eget_zip xs (i + 1) t]
      by_cases hle : i ≤ t
      · rw [if_pos hle, if_pos (by omega), show t - i = (t - (i + 1)) + 1 by omega, List.getElem?_cons_succ]
      · rw [if_neg hle, if_neg (by omega)]
theorem eget_prune (E : Env) : ∀ (l : Option (List Nat)) (t : Nat), eget (prune E l) t = eget E t ∨ eget (prune E l) t = .bad
  | none, t => .inl rfl
  | some l, t => by
    simp only [prune]
    induction l with
    | nil => exact .inr rfl
    | cons k l ih =>
      simp only [List.map_cons, eget]
      by_cases h : k = t
      · subst h; simp
      · have := nbeq h
        rw [this]; exact ih
structure SR (w : World) (F : Nat → Prop) (B : BM) (n : Nat) (E : Env) (H : List Blk) (a : Act) : Prop where
  env : ∀ t, VR w (Forb F B) B (eget E t) (a.tmps.getD t undef)
  size : a.tmps.size = n
  hr : HR w F B H
  full : Full B H
theorem SR.eval {w : World} {F : Nat → Prop} {B : BM} {n : Nat} {E : Env} {H : List Blk} {a : Act} (hS : SR w F B n E H a) (x : Operand) : VR w (Forb F B) B (aeval E x) (a.eval x) := by
  cases x with
  | tmp t => exact hS.env t
  | const v => exact VR.ofV v
  | global g => simp only [aeval, Act.eval, VR]
  | func f => simp only [aeval, Act.eval, VR]; exact ⟨#[], rfl, by simp only [VRL]⟩
theorem Act.put_get {a : Act} {d : Nat} {v : Value} (h : d < a.tmps.size) (t : Nat) : (a.put (some d) v).tmps.getD t undef = if t = d then v else a.tmps.getD t undef := by
  simp only [Act.put, Array.getD_eq_getD_getElem?, Array.getElem?_setIfInBounds]
  by_cases e : t = d
  · subst e; rw [if_pos rfl, if_pos rfl, if_pos h]; rfl
  · rw [if_neg (Ne.symm e), if_neg e]
theorem dput_ok {w : World} {F : Nat → Prop} {B : BM} {n : Nat} {E E' : Env} {a : Act} {dst : Option Tmp} {x : AV} {v : Value} (h : dput n E dst x = some E') (hE : ∀ t, VR w (Forb F B) B (eget E t) (a.tmps.getD t undef)) (hs : a.tmps.size = n) (hv : VR w (Forb F B) B x v) :
    (∀ t, VR w (Forb F B) B (eget E' t) ((a.put dst v).tmps.getD t undef)) ∧ (a.put dst v).tmps.size = n ∧ (a.put dst v).defers = a.defers := by
  cases dst with
  | none => simp only [dput, Option.some.injEq] at h; subst h; exact ⟨hE, hs, rfl⟩
  | some d =>
    simp only [dput] at h
    split at h <;> try (cases h; done)
    rename_i hd
    cases h
    have hd' : d < a.tmps.size := by rw [hs]; exact hd
    refine ⟨fun t => ?_, by simp [Act.put, hs], rfl⟩
    rw [eget_eput, Act.put_get hd']
    split
    · exact hv
    · exact hE t
section
variable {P : Program} {w : World} {F : Nat → Prop} {B : BM} {n : Nat} {a : Act} {call : Fun}
theorem wanted_ok {E : Env} {ops : Array Oper} {o : Oper} {b : Bool} (hE : ∀ t ∈ o.looksAt ops, VR w (Forb F B) B (eget E t) (a.tmps.getD t undef)) (h : awanted ops E o = some b) : Region.wanted o (yielded ops a.tmps) = b := by
  unfold awanted at h
  unfold Region.wanted
  split at h
  · rename_i hg
    cases h
    rw [hg]
  · rename_i j want hg
    rw [hg]
    split at h <;> try (cases h; done)
    rename_i t ht
    have hv := hE t (by simp [Oper.looksAt, hg, ht])
    split at h
    · rename_i c hc
      cases h
      rw [hc] at hv
      simp only [VR] at hv
      have : a.tmps[t]? = some (.bool c) := by
        rw [Array.getD_eq_getD_getElem?] at hv
        cases hq : a.tmps[t]? with
        | none => rw [hq] at hv; cases hv
        | some u => rw [hq] at hv; exact congrArg some hv
      simp only [yielded, ht, Option.bind_some, this]
      cases c <;> cases want <;> rfl
    · rename_i c hc
      cases h
      rw [hc] at hv
      simp only [VR] at hv
      have : yielded ops a.tmps j = none := by
        simp only [yielded, ht, Option.bind_some]
        rw [Array.getD_eq_getD_getElem?] at hv
        cases hq : a.tmps[t]? with
        | none => rfl
        | some u => rw [hq] at hv; simp only [Option.getD_some] at hv; rw [hv]
      show (yielded ops a.tmps j == some want) = false
      rw [this]
      rfl
    · cases h
theorem run_enter {o : Oper} {c : Call} {x : Operand} {g : FuncId} {caps : Array Value} (ho : o.op = .call c) (hc : c.callee = .value x) (hx : a.eval x = .func (.func g) #[] caps) (hg : Enter P g) :
    (execOp a.eval o).run P w = .ok (.enter g (c.args.map a.eval ++ caps)) w := by
  obtain ⟨fn, hf, hn, hb⟩ := hg
  simp only [execOp, ho, resolve, hc, hx, Deferred.ofValue, pure_bind, invoke, callFunc, Sem.run_bind, run_program, Result.andThen_ok, hf]
  have h1 : (fn.name == "runtime.NumGoroutine") = false := by simpa using hn
  have h2 : fn.body.isNone = false := by cases h : fn.body <;> simp_all
  simp only [h1, h2, Bool.false_eq_true, if_false, Sem.run_pure, Array.empty_append]
theorem callee_ok {ρ : Operand → AV} {c : Call} {f : FuncId} {args : List AV} (hρ : ∀ x, VR w (Forb F B) B (ρ x) (a.eval x)) (h : callee ρ c = some (f, args)) :
    ∃ x caps, c.callee = .value x ∧ a.eval x = .func (.func f) #[] caps ∧ VRL w (Forb F B) B args (c.args.map a.eval ++ caps).toList := by
  unfold callee at h
  split at h <;> try (cases h; done)
  rename_i x hx
  split at h <;> try (cases h; done)
  rename_i g caps hg
  cases h
  have hv := hρ x
  rw [hg] at hv
  simp only [VR] at hv
  obtain ⟨c', e, hv⟩ := hv
  refine ⟨x, c', hx, e, ?_⟩
  rw [Array.toList_append, Array.toList_map]
  exact VRL.append (VRL.map hρ _) hv
theorem noEscape_row (fn : Func) : ((((Extern.allGenericRows.lookup "internal/abi.NoEscape").map (· fn.targs fn.params fn.resultTypes)) <|> ((Extern.allTypedRows.lookup "internal/abi.NoEscape").map (· fn.params fn.resultTypes)) <|> Extern.allRows.lookup "internal/abi.NoEscape") <|> (((Extern.allGenericRows.lookup fn.origin).map (· fn.targs fn.params fn.resultTypes)) <|> ((Extern.allTypedRows.lookup fn.origin).map (· fn.params fn.resultTypes)) <|> Extern.allRows.lookup fn.origin)) = some Extern.AbiNoEscape.same := by kernel_rfl
theorem ext_ok {o : Oper} {c : Call} {x : Operand} {f : FuncId} {args : List AV} {caps : Array Value} {y : AV} (ho : o.op = .call c) (hc : c.callee = .value x) (hx : a.eval x = .func (.func f) #[] caps) (hv : VRL w (Forb F B) B args (c.args.map a.eval ++ caps).toList) (hy : aext P f args = some y) :
    ∃ v, (execOp a.eval o).run P w = .ok (.value v) w ∧ VR w (Forb F B) B y v := by
  unfold aext at hy
  split at hy <;> try (cases hy; done)
  rename_i fn hf
  split at hy <;> try (cases hy; done)
  rename_i hcond
  simp only [Bool.and_eq_true, beq_iff_eq] at hcond
  obtain ⟨⟨hb, hn⟩, hx2⟩ := hcond
  split at hy <;> try (cases hy; done)
  rename_i z
  cases hy
  simp only [VRL] at hv
  obtain ⟨v, r, e, h1, rfl⟩ := hv
  refine ⟨v, ?_, h1⟩
  have ha : c.args.map a.eval ++ caps = #[v] := by rw [← Array.toList_inj]; exact e
  simp only [execOp, ho, resolve, hc, hx, Deferred.ofValue, pure_bind, invoke, callFunc, Sem.run_bind, run_program, Result.andThen_ok, hf, Array.empty_append, ha]
  have h1 : (fn.name == "runtime.NumGoroutine") = false := by rw [hn]; decide
  have h2 : Extern.findNext fn = none := by cases h : Extern.findNext fn <;> simp_all
  have h3 : Extern.find fn = some Extern.AbiNoEscape.same := by
    unfold Extern.find
    rw [hn]
    exact noEscape_row fn
  simp only [h1, hb, Bool.false_eq_true, if_false, if_true, Sem.run_bind, run_mark, Result.andThen_ok, h2, h3]
  rfl
theorem plain_ok {H H' : List Blk} {ρ : Operand → AV} {o : Oper} {x : AV} (h : aopH P H ρ o = some (x, H')) (hρ : ∀ x, VR w (Forb F B) B (ρ x) (a.eval x)) (hR : HR w F B H) {K : Act → World → Prop} {Q : Exit → Act → World → Prop}
    (hK : ∀ v w' B', Ext w B w' B' → HR w' F B' H' → (∀ b, B b = none → b < H.length → B' b = none ∧ H'[b]? = H[b]?) → (∀ b, H.length ≤ b → b < H'.length → ∃ e, B' b = some e) → VR w' (Forb F B') B' x v → K (a.put o.dst v) w') : o.wp P a w K Q := by
  unfold aopH at h
  split at h <;> try (cases h; done)
  · rename_i y hr
    have hk := aop_sound hR.weak hρ hr
    cases h
    obtain ⟨v, hrun, hv⟩ := hk
    simp only [Oper.wp, hrun, Oper.upon]
    exact hK v w B (Ext.refl w B) hR (fun b hb _ => ⟨hb, rfl⟩) (fun b h1 h2 => by omega) hv
  · rename_i y blk hr
    have hk := aop_sound hR.weak hρ hr
    cases h
    have hfresh : B H.length = none := by
      cases hb : B H.length with
      | none => rfl
      | some e =>
        obtain ⟨g, v, c⟩ := e
        obtain ⟨_, k, _⟩ := hR.at_ _ _ _ _ hb
        rw [List.getElem?_eq_none (Nat.le_refl _)] at k
        cases k
    obtain ⟨v, w', B', hrun, hX, hR', hv, hn, ho⟩ := made_sound (Hb' := H ++ [blk]) hk hfresh hR (by simp) (fun b e hb => by
      obtain ⟨g, v, c⟩ := e
      obtain ⟨_, k, _⟩ := hR.at_ _ _ _ _ hb
      rw [List.getElem?_append_left (by rcases Nat.lt_or_ge b H.length with h' | h'; exact h'; rw [List.getElem?_eq_none h'] at k; cases k)]) (fun _ _ h => h)
    simp only [Oper.wp, hrun, Oper.upon]
    refine hK v w' B' hX hR' (fun b hb hl => ⟨by rw [ho b (by omega)]; exact hb, by rw [List.getElem?_append_left hl]⟩) (fun b h1 h2 => ?_) hv
    simp only [List.length_append, List.length_cons, List.length_nil] at h2
    have e : b = H.length := by omega
    subst e; exact hn
  · rename_i y i blk hr
    have hk := aop_sound hR.weak hρ hr
    cases h
    obtain ⟨nx, w', B', hrun, hv, hX, hR', hno, e, hbi⟩ := hk hR
    have h1 : ∀ b, B b = none → b < H.length → B' b = none ∧ (H.set i blk)[b]? = H[b]? := fun b hb hl => ⟨hno b hb, List.getElem?_set_ne (fun e => by rw [e, hb] at hbi; cases hbi)⟩
    have h2 : ∀ b, H.length ≤ b → b < (H.set i blk).length → ∃ e, B' b = some e := fun b h1 h2 => by rw [List.length_set] at h2; omega
    rcases hv with ⟨v, rfl, hv⟩ | ⟨rfl, rfl⟩
    · simp only [Oper.wp, hrun, Oper.upon]
      exact hK v w' B' hX hR' h1 h2 hv
    · simp only [Oper.wp, hrun, Oper.upon]
      exact hK undef w' B' hX hR' h1 h2 (by simp only [VR])
theorem call_ok (hC : FunOk P call) {H H' : List Blk} {ρ : Operand → AV} {o : Oper} {x : AV} (h : acallH P call H ρ o = some (x, H')) (hρ : ∀ x, VR w (Forb F B) B (ρ x) (a.eval x)) (hR : HR w F B H) (hF : Full B H) {K : Act → World → Prop} {Q : Exit → Act → World → Prop}
    (hK : ∀ v w' B', Ext w B w' B' → HR w' F B' H' → Full B' H' → VR w' (Forb F B') B' x v → K (a.put o.dst v) w') : o.wp P a w K Q := by
  have plain : aopH P H ρ o = some (x, H') → o.wp P a w K Q := by
    intro h
    unfold aopH at h
    split at h <;> try (cases h; done)
    · rename_i y hr
      have hk := aop_sound hR.weak hρ hr
      cases h
      obtain ⟨v, hrun, hv⟩ := hk
      simp only [Oper.wp, hrun, Oper.upon]
      exact hK v w B (Ext.refl w B) hR hF hv
    · rename_i y blk hr
      have hk := aop_sound hR.weak hρ hr
      cases h
      have hfresh : B H.length = none := by
        cases hb : B H.length with
        | none => rfl
        | some e =>
          obtain ⟨g, v, c⟩ := e
          obtain ⟨_, k, _⟩ := hR.at_ _ _ _ _ hb
          rw [List.getElem?_eq_none (Nat.le_refl _)] at k
          cases k
      obtain ⟨v, w', B', hrun, hX, hR', hv, hn, ho⟩ := made_sound (Hb' := H ++ [blk]) hk hfresh hR (by simp) (fun b e hb => by
        obtain ⟨g, v, c⟩ := e
        obtain ⟨_, k, _⟩ := hR.at_ _ _ _ _ hb
        rw [List.getElem?_append_left (by rcases Nat.lt_or_ge b H.length with h' | h'; exact h'; rw [List.getElem?_eq_none h'] at k; cases k)]) (fun _ _ h => h)
      simp only [Oper.wp, hrun, Oper.upon]
      refine hK v w' B' hX hR' (fun b hb => ?_) hv
      simp only [List.length_append, List.length_cons, List.length_nil] at hb
      by_cases e : b = H.length
      · subst e; exact hn
      · rw [ho b e]; exact hF b (by omega)
    · rename_i y i blk hr
      have hk := aop_sound hR.weak hρ hr
      cases h
      obtain ⟨nx, w', B', hrun, hv, hX, hR', hno, hbi⟩ := hk hR
      have hfull : Full B' (H.set i blk) := fun b hb => by
        rw [List.length_set] at hb
        obtain ⟨⟨g, v, c⟩, e⟩ := hF b hb
        obtain ⟨g', v', c', e', _⟩ := hX.vers b g v c e
        exact ⟨_, e'⟩
      rcases hv with ⟨v, rfl, hv⟩ | ⟨rfl, rfl⟩
      · simp only [Oper.wp, hrun, Oper.upon]
        exact hK v w' B' hX hR' hfull hv
      · simp only [Oper.wp, hrun, Oper.upon]
        exact hK undef w' B' hX hR' hfull (by simp only [VR])
  unfold acallH at h
  split at h
  · rename_i c ho
    split at h
    · rename_i f args hcal
      obtain ⟨x, caps, hc, hx, hv⟩ := callee_ok hρ hcal
      split at h
      case h_2 =>
        obtain ⟨y, hy, e⟩ := Option.map_eq_some_iff.1 h
        cases e
        obtain ⟨v, hrun, hv⟩ := ext_ok (P := P) ho hc hx hv hy
        simp only [Oper.wp, hrun, Oper.upon]
        exact hK v w B (Ext.refl w B) hR hF hv
      rename_i r hcall
      cases h
      obtain ⟨hent, hok⟩ := hC _ _ _ _ _ hcall
      simp only [Oper.wp, run_enter ho hc hx hent, Oper.upon]
      have := hok w F B _ hR hF hv
      rw [Array.toArray_toList] at this
      refine this.mono ?_
      rintro e w' ⟨v, B', rfl, hX, hR', hF', hr⟩
      exact hK v w' B' hX hR' hF' hr
    · exact plain h
  · exact plain h
theorem step_ok (hC : FunOk P call) {ops : Array Oper} {o : Oper} {s s' : St} (h : astep P call n ops o s = some s') (hS : SR w F B n s.env s.heap a) {K : Act → World → Prop} {Q : Exit → Act → World → Prop}
    (hK : ∀ a' w' B', Ext w B w' B' → SR w' F B' n s'.env s'.heap a' → a'.defers = a.defers → K a' w') :
    if Region.wanted o (yielded ops a.tmps) = true then o.wp P a w K Q ∨ (o.asks P a w ∧ LetsOut Q) else K (a.put o.dst undef) w := by
  unfold astep at h
  split at h <;> try (cases h; done)
  rename_i x H' hv
  obtain ⟨E, hE, rfl⟩ := Option.map_eq_some_iff.1 h
  unfold aval at hv
  split at hv <;> try (cases hv; done)
  · rename_i hw
    rw [wanted_ok (fun t _ => hS.env t) hw, if_pos rfl]
    left
    refine call_ok hC hv hS.eval hS.hr hS.full (fun v w' B' hX hR' hF' hr => ?_)
    obtain ⟨q1, q2, q3⟩ := dput_ok hE (fun t => (hS.env t).ext hX) hS.size hr
    exact hK _ _ B' hX ⟨q1, q2, hR', hF'⟩ q3
  · rename_i hw
    rw [wanted_ok (fun t _ => hS.env t) hw, if_neg (by simp)]
    cases hv
    obtain ⟨q1, q2, q3⟩ := dput_ok (v := undef) hE hS.env hS.size (by simp only [VR])
    exact hK _ _ B (Ext.refl w B) ⟨q1, q2, hS.hr, hS.full⟩ q3
end
theorem frz_ok {P : Program} {w : World} {F : Nat → Prop} {B : BM} {H : List Blk} {m : Nat} {a : Act} {o : Oper} {x y : AV} {blk : Blk} (hN : NewOk' P w F B m a o x blk) (hR : HR w F B H) (h : freeze x blk = some y) :
    ∃ v w', (execOp a.eval o).run P w = .ok (.value v) w' ∧ Ext w B w' B ∧ HR w' F B H ∧ VR w' (Forb F B) B y v := by
  obtain ⟨v, w', c, hrun, e1, e2, e3, hsz, hold, hnew, hver, hx⟩ := hN
  have hE : Ext w B w' B := ⟨e1, e2, e3, Nat.le_of_lt hsz, run_drawn _ hrun, fun i hi ho => ⟨hold i hi, ho⟩, BLe.refl B⟩
  have hb := hnew B hE
  have hx1 := hx w' (Forb F B) (fun b => if b = m then some (w.heap.size, 0, c) else none) (by simp)
  have hnf : ¬ Forb F B w.heap.size := by
    rintro (hF | hO)
    · exact absurd (hR.lt _ hF) (Nat.lt_irrefl _)
    · exact absurd (own_lt hR hO) (Nat.lt_irrefl _)
  refine ⟨v, w', hrun, hE, ⟨fun b g v1 c1 hb1 => ?_, hR.inj, hR.nf, fun i hi => Nat.lt_trans (hR.lt i hi) hsz⟩, ?_⟩
  · obtain ⟨blk1, k1, k2, p1⟩ := hR.at_ b g v1 c1 hb1
    exact ⟨blk1, k1, k2, p1.ext hE (hold g p1.lt)⟩
  · unfold freeze at h
    split at h <;> try (cases h; done)
    rename_i hkd
    split at h <;> try (cases h; done)
    rename_i hpv
    simp only [BRel, hkd] at hb
    obtain ⟨cur, ys, rest, q1, q2, q3, q4, q5⟩ := hb
    have q6 := pvl_sound depth _ _ hpv q3
    have hcell : ∀ (i : Nat) z, ys[i]? = some z → w'.cell? (⟨w.heap.size, i, none⟩ : Addr) = some z := fun i z hz => by
      simp only [World.cell?, q1]
      have : cur.toList[i]? = some z := by rw [q2, List.getElem?_append_left (by rcases Nat.lt_or_ge i ys.length with h' | h'; exact h'; rw [List.getElem?_eq_none h'] at hz; cases hz)]; exact hz
      simpa using this
    split at h
    · cases h
      simp only [VR] at hx1 ⊢
      obtain ⟨a0, g, v', c', rfl, hbm, _, hat⟩ := hx1
      split at hbm <;> try (cases hbm; done)
      cases hbm
      cases hat rfl
      exact ⟨_, ys, rfl, q6, q4, .inr ⟨_, rfl, hnf, fun i z hz => by rw [addr_add, Nat.zero_add]; exact hcell i z hz⟩⟩
    · rename_i b len sz
      split at h <;> try (cases h; done)
      rename_i cs hcs
      cases h
      simp only [VR] at hx1
      obtain ⟨A, cap, g, v', c', rfl, hbm, _, hat⟩ := hx1
      split at hbm <;> try (cases hbm; done)
      cases hbm
      obtain ⟨rfl, hle, _⟩ := hat rfl
      unfold rdCells at hcs
      split at hcs <;> try (cases hcs; done)
      rename_i hlen
      cases hcs
      rw [List.drop_zero]
      have hl : (blk.cells.take (len * sz)).length = len * sz := by rw [List.length_take]; omega
      refine mkL_ok ?_
      simp only [VR]
      refine ⟨_, cap, ys.take (len * sz), by rw [chunks_len], by rw [chunks_len]; exact hle, chunks_row hl, ?_, fun y hy => q4 y (List.mem_of_mem_take hy), .inr ⟨_, rfl, hnf, fun i z hz => ?_⟩⟩
      · rw [VRR.flat, chunks_flat hl]
        exact VRL.take _ q6
      · rw [addr_add, Nat.zero_mul, Nat.zero_add]
        rw [List.getElem?_take] at hz
        split at hz
        · exact hcell i z hz
        · cases hz
    · cases h
      simp only [VR] at hx1 ⊢
      exact hx1
    · cases h
theorem run_alloc {P : Program} {w : World} {a : Act} {o : Oper} {e : TypeId} {i : TypeInfo} {zv : Value} (ho : o.op = .alloc e) (hi : P.info? e = some i) (hz : i.zero = some zv) :
    (execOp a.eval o).run P w = .ok (.value (.pointer (some ⟨w.heap.size, 0, none⟩))) (w.alloc (.cells zv.cells e)) := by
  simp only [execOp, ho, Instr.alloc, Sem.run_bind, run_zero hi hz, Result.andThen_ok, newVar, newRow, run_newObj, Sem.run_pure]
  rfl
theorem isVar_some {frz : List Nat} {o o2 : Oper} {t : Tmp} {y : Operand} {e : TypeId} (h : isVar frz o o2 = some (t, y, e)) :
    o.op = .alloc e ∧ o.dst = some t ∧ o.guard = none ∧ o2.op = .store e (.tmp t) y ∧ o2.dst = none ∧ o2.guard = none ∧ y ≠ .tmp t := by
  unfold isVar at h
  split at h <;> try (cases h; done)
  rename_i e1 t1 e2 t2 y2 h1 h2 h3 h4 h5 h6
  split at h <;> try (cases h; done)
  rename_i hc
  simp only [Bool.and_eq_true, Bool.not_eq_true'] at hc
  obtain ⟨⟨⟨_, c1⟩, c2⟩, c3⟩ := hc
  cases h
  cases Nat.eq_of_beq_eq_true c1
  cases Nat.eq_of_beq_eq_true c2
  refine ⟨h1, h2, h3, h4, h5, h6, ?_⟩
  rintro rfl
  simp [isTmp] at c3
theorem zvar_ok {P : Program} {F : Nat → Prop} {n : Nat} {ops : Array Oper} {o o2 : Oper} {frz : List Nat} {t : Tmp} {y : Operand} {e : TypeId} (hv : isVar frz o o2 = some (t, y, e)) {w : World} {B : BM} {a : Act} {s s' : St} (h : zvar P n t y e s = some s') (hS : SR w F B n s.env s.heap a) {K : Act → World → Prop} {Q : Exit → Act → World → Prop}
    {K2 : Act → World → Prop} (h2K : ∀ a1 w1, o2.wp P a1 w1 K Q → K2 a1 w1)
    (hK : ∀ a' w', Ext w B w' B → SR w' F B n s'.env s'.heap a' → a'.defers = a.defers → K a' w') :
    o.wp P a w K2 Q := by
  obtain ⟨h1, h2, h3, h4, h5, h6, h7⟩ := isVar_some hv
  unfold zvar at h
  split at h <;> try (cases h; done)
  rename_i i hi
  split at h <;> try (cases h; done)
  rename_i zv hz
  split at h <;> try (cases h; done)
  rename_i hc
  simp only [Bool.and_eq_true, decide_eq_true_eq, beq_iff_eq] at hc
  obtain ⟨⟨⟨⟨⟨⟨hn, hsol⟩, hone⟩, hpv⟩, hlen⟩, hzs⟩, hz1⟩ := hc
  cases h
  have hcells := acells_solid (hS.eval y) hsol
  have hoc := one_cell hcells hone
  have hl1 := hcells.length
  have hd' : t < a.tmps.size := by rw [hS.size]; exact hn
  simp only [Oper.wp, run_alloc h1 hi hz, Oper.upon, h2]
  have ey : (a.put (some t) (.pointer (some ⟨w.heap.size, 0, none⟩))).eval y = a.eval y := by
    cases y with
    | tmp u =>
      simp only [Act.eval]
      rw [Act.put_get hd', if_neg]
      rintro rfl
      exact h7 rfl
    | _ => rfl
  have et : (a.put (some t) (.pointer (some ⟨w.heap.size, 0, none⟩))).eval (.tmp t) = .pointer (some ⟨w.heap.size, 0, none⟩) := by
    simp only [Act.eval]
    rw [Act.put_get hd', if_pos rfl]
  obtain ⟨cur', r1, r2⟩ := run_storeCells (P := P) (off := 0) (a.eval y).cells.toList 0 (w.alloc (.cells zv.cells e)) zv.cells (heap_alloc_new _ _) (by rw [hl1, hlen, hzs]; omega) hoc
  have hcur : cur'.toList = (a.eval y).cells.toList := by
    rw [r2]
    simp only [Nat.zero_add, List.take_zero, List.nil_append]
    rw [List.drop_eq_nil_of_le (by rw [Array.length_toList, hl1, hlen, hzs]; exact Nat.le_refl _), List.append_nil]
  refine h2K _ _ ?_
  have hsz : szOf P e = some i.size := by unfold szOf; rw [hi]; rfl
  simp only [Oper.wp, execOp, h4, et, ey, Instr.storeAt, Instr.sureAddr, Sem.run_bind, Sem.run_pure, Result.andThen_ok, storeVar, run_szOf hsz]
  rw [Sem.run_ite, if_neg (by have : (a.eval y).cells.toList.length = (a.eval y).cells.size := Array.length_toList; omega)]
  simp only [r1, Result.andThen_ok, Oper.upon, h5]
  have hlt : w.heap.size < (w.alloc (.cells zv.cells e)).heap.size := by simp
  have hold : ∀ j, j < w.heap.size → (setBlk (w.alloc (.cells zv.cells e)) w.heap.size cur' e).heap[j]? = w.heap[j]? := fun j hj => by
    rw [setBlk_other (by omega)]
    exact heap_alloc_old _ _ _ hj
  have hX : Ext w B (setBlk (w.alloc (.cells zv.cells e)) w.heap.size cur' e) B := ⟨rfl, rfl, rfl, by rw [setBlk_size]; omega, Nat.le_refl _, fun j hj ho => ⟨hold j hj, ho⟩, BLe.refl B⟩
  have hnf : ¬ Forb F B w.heap.size := by
    rintro (hF | hO)
    · exact absurd (hS.hr.lt _ hF) (Nat.lt_irrefl _)
    · exact absurd (own_lt hS.hr hO) (Nat.lt_irrefl _)
  refine hK _ _ hX ⟨fun u => ?_, by simp [Act.put, hS.size], ⟨fun b g v1 c1 hb1 => ?_, hS.hr.inj, hS.hr.nf, fun j hj => by rw [setBlk_size]; exact Nat.lt_trans (hS.hr.lt j hj) hlt⟩, hS.full⟩ rfl
  · show VR _ _ _ (eget (eput s.env t _) u) ((a.put (some t) _).tmps.getD u undef)
    rw [eget_eput, Act.put_get hd']
    by_cases hu : u = t
    · rw [if_pos hu, if_pos hu]
      simp only [VR]
      have hm := VRL.mono (w' := setBlk (w.alloc (.cells zv.cells e)) w.heap.size cur' e) (Fb' := Forb F B) (fun a0 z hf hc => (hX.cells a0 z hf hc)) _ BM.none BM.none (BLe.refl _) _ (pvl_sound depth _ _ hpv hcells)
      refine ⟨_, (a.eval y).cells.toList, rfl, hm, hoc, .inr ⟨_, rfl, hnf, fun j z hj => ?_⟩⟩
      rw [addr_add, Nat.zero_add]
      simp only [World.cell?, setBlk_at hlt]
      have : cur'.toList[j]? = some z := by rw [hcur]; exact hj
      simpa using this
    · rw [if_neg hu, if_neg hu]
      exact (hS.env u).ext hX
  · obtain ⟨blk1, k1, k2, p1⟩ := hS.hr.at_ b g v1 c1 hb1
    exact ⟨blk1, k1, k2, p1.ext hX (hold g p1.lt)⟩
theorem midOf_some {t : Tmp} {y : Operand} {om : Oper} {u : Tmp} {x : Operand} (h : midOf t y om = some (u, x)) : om.op = .assign x ∧ om.dst = some u ∧ u ≠ t ∧ x ≠ .tmp t ∧ y ≠ .tmp u ∧ om.guard = none := by
  unfold midOf at h
  split at h <;> try (cases h; done)
  rename_i x' u' h1 h2 h3
  split at h <;> try (cases h; done)
  rename_i hc
  simp only [Bool.and_eq_true, Bool.not_eq_true'] at hc
  obtain ⟨⟨c1, c2⟩, c3⟩ := hc
  cases h
  refine ⟨h1, h2, ?_, ?_, ?_, h3⟩
  · rintro rfl; simp at c1
  · rintro rfl; simp [isTmp] at c2
  · rintro rfl; simp [isTmp] at c3
theorem zvar3_ok {P : Program} {F : Nat → Prop} {n : Nat} {ops : Array Oper} {o o2 : Oper} {frz : List Nat} {t : Tmp} {y : Operand} {e : TypeId} (hv : isVar frz o o2 = some (t, y, e)) {w : World} {B : BM} {a : Act} {s s' : St} {om : Oper} {u : Tmp} {x : Operand} (hm : midOf t y om = some (u, x)) {s1 : St} (h : zvar P n t y e s = some s1) (hu : u < n) (hs1 : s' = ⟨eput s1.env u (aeval s.env x), s1.heap⟩) (hS : SR w F B n s.env s.heap a) {K : Act → World → Prop} {Q : Exit → Act → World → Prop}
    {K2 K3 : Act → World → Prop} (h2K : ∀ a1 w1, o2.wp P a1 w1 K Q → K2 a1 w1) (h3K : ∀ a1 w1, om.wp P a1 w1 K2 Q → K3 a1 w1)
    (hK : ∀ a' w', Ext w B w' B → SR w' F B n s'.env s'.heap a' → a'.defers = a.defers → K a' w') :
    o.wp P a w K3 Q := by
  obtain ⟨m1, m2, m3, m4, m5, _⟩ := midOf_some hm
  obtain ⟨h1, h2, h3, h4, h5, h6, h7⟩ := isVar_some hv
  unfold zvar at h
  split at h <;> try (cases h; done)
  rename_i i hi
  split at h <;> try (cases h; done)
  rename_i zv hz
  split at h <;> try (cases h; done)
  rename_i hc
  simp only [Bool.and_eq_true, decide_eq_true_eq, beq_iff_eq] at hc
  obtain ⟨⟨⟨⟨⟨⟨hn, hsol⟩, hone⟩, hpv⟩, hlen⟩, hzs⟩, hz1⟩ := hc
  cases h
  subst hs1
  have hcells := acells_solid (hS.eval y) hsol
  have hoc := one_cell hcells hone
  have hl1 := hcells.length
  have hd' : t < a.tmps.size := by rw [hS.size]; exact hn
  simp only [Oper.wp, run_alloc h1 hi hz, Oper.upon, h2]
  have hdu : u < a.tmps.size := by rw [hS.size]; exact hu
  have hsz1 : (a.put (some t) (.pointer (some ⟨w.heap.size, 0, none⟩))).tmps.size = a.tmps.size := by simp [Act.put]
  have ex : (a.put (some t) (.pointer (some ⟨w.heap.size, 0, none⟩))).eval x = a.eval x := by
    cases x with
    | tmp v =>
      simp only [Act.eval]
      rw [Act.put_get hd', if_neg]
      rintro rfl
      exact m4 rfl
    | _ => rfl
  have ey : ((a.put (some t) (.pointer (some ⟨w.heap.size, 0, none⟩))).put (some u) (a.eval x)).eval y = a.eval y := by
    cases y with
    | tmp v =>
      simp only [Act.eval]
      rw [Act.put_get (by rw [hsz1]; exact hdu), if_neg, Act.put_get hd', if_neg]
      · rintro rfl
        exact h7 rfl
      · rintro rfl
        exact m5 rfl
    | _ => rfl
  have et : ((a.put (some t) (.pointer (some ⟨w.heap.size, 0, none⟩))).put (some u) (a.eval x)).eval (.tmp t) = .pointer (some ⟨w.heap.size, 0, none⟩) := by
    simp only [Act.eval]
    rw [Act.put_get (by rw [hsz1]; exact hdu), if_neg (fun h => m3 h.symm), Act.put_get hd', if_pos rfl]
  obtain ⟨cur', r1, r2⟩ := run_storeCells (P := P) (off := 0) (a.eval y).cells.toList 0 (w.alloc (.cells zv.cells e)) zv.cells (heap_alloc_new _ _) (by rw [hl1, hlen, hzs]; omega) hoc
  have hcur : cur'.toList = (a.eval y).cells.toList := by
    rw [r2]
    simp only [Nat.zero_add, List.take_zero, List.nil_append]
    rw [List.drop_eq_nil_of_le (by rw [Array.length_toList, hl1, hlen, hzs]; exact Nat.le_refl _), List.append_nil]
  refine h3K _ _ ?_
  simp only [Oper.wp, execOp, m1, ex, Sem.run_pure, Oper.upon, m2]
  refine h2K _ _ ?_
  have hsz : szOf P e = some i.size := by unfold szOf; rw [hi]; rfl
  simp only [Oper.wp, execOp, h4, et, ey, Instr.storeAt, Instr.sureAddr, Sem.run_bind, Sem.run_pure, Result.andThen_ok, storeVar, run_szOf hsz]
  rw [Sem.run_ite, if_neg (by have : (a.eval y).cells.toList.length = (a.eval y).cells.size := Array.length_toList; omega)]
  simp only [r1, Result.andThen_ok, Oper.upon, h5]
  have hlt : w.heap.size < (w.alloc (.cells zv.cells e)).heap.size := by simp
  have hold : ∀ j, j < w.heap.size → (setBlk (w.alloc (.cells zv.cells e)) w.heap.size cur' e).heap[j]? = w.heap[j]? := fun j hj => by
    rw [setBlk_other (by omega)]
    exact heap_alloc_old _ _ _ hj
  have hX : Ext w B (setBlk (w.alloc (.cells zv.cells e)) w.heap.size cur' e) B := ⟨rfl, rfl, rfl, by rw [setBlk_size]; omega, Nat.le_refl _, fun j hj ho => ⟨hold j hj, ho⟩, BLe.refl B⟩
  have hnf : ¬ Forb F B w.heap.size := by
    rintro (hF | hO)
    · exact absurd (hS.hr.lt _ hF) (Nat.lt_irrefl _)
    · exact absurd (own_lt hS.hr hO) (Nat.lt_irrefl _)
  refine hK _ _ hX ⟨fun v => ?_, by simp [Act.put, hS.size], ⟨fun b g v1 c1 hb1 => ?_, hS.hr.inj, hS.hr.nf, fun j hj => by rw [setBlk_size]; exact Nat.lt_trans (hS.hr.lt j hj) hlt⟩, hS.full⟩ rfl
  · show VR _ _ _ (eget (eput (eput s.env t _) u _) v) (((a.put (some t) _).put (some u) _).tmps.getD v undef)
    rw [eget_eput, Act.put_get (by rw [hsz1]; exact hdu)]
    by_cases hvu : v = u
    · rw [if_pos hvu, if_pos hvu]
      exact (hS.eval x).ext hX
    rw [if_neg hvu, if_neg hvu, eget_eput, Act.put_get hd']
    by_cases hu : v = t
    · rw [if_pos hu, if_pos hu]
      simp only [VR]
      have hm := VRL.mono (w' := setBlk (w.alloc (.cells zv.cells e)) w.heap.size cur' e) (Fb' := Forb F B) (fun a0 z hf hc => (hX.cells a0 z hf hc)) _ BM.none BM.none (BLe.refl _) _ (pvl_sound depth _ _ hpv hcells)
      refine ⟨_, (a.eval y).cells.toList, rfl, hm, hoc, .inr ⟨_, rfl, hnf, fun j z hj => ?_⟩⟩
      rw [addr_add, Nat.zero_add]
      simp only [World.cell?, setBlk_at hlt]
      have : cur'.toList[j]? = some z := by rw [hcur]; exact hj
      simpa using this
    · rw [if_neg hu, if_neg hu]
      exact (hS.env v).ext hX
  · obtain ⟨blk1, k1, k2, p1⟩ := hS.hr.at_ b g v1 c1 hb1
    exact ⟨blk1, k1, k2, p1.ext hX (hold g p1.lt)⟩
theorem zstep_ok {P : Program} {call : Fun} (hC : FunOk P call) {F : Nat → Prop} {n : Nat} {frz : List Nat} {ops : Array Oper} {o : Oper} {w : World} {B : BM} {a : Act} {s s' : St} (h : zstep P call frz n ops o s = some s') (hS : SR w F B n s.env s.heap a) {K : Act → World → Prop} {Q : Exit → Act → World → Prop}
    (hK : ∀ a' w' B', Ext w B w' B' → SR w' F B' n s'.env s'.heap a' → a'.defers = a.defers → K a' w') :
    if Region.wanted o (yielded ops a.tmps) = true then o.wp P a w K Q ∨ (o.asks P a w ∧ LetsOut Q) else K (a.put o.dst undef) w := by
  unfold zstep at h
  split at h
  · split at h
    · rename_i hw
      split at h
      · split at h
        · rename_i y blk' hy
          obtain ⟨E, hE, rfl⟩ := Option.map_eq_some_iff.1 h
          unfold apped at hy
          split at hy <;> try (cases hy; done)
          rename_i x blk hr
          split at hy <;> try (cases hy; done)
          rename_i hkd
          cases hy
          have hk := aop_sound hS.hr.weak hS.eval hr
          have hk2 : NewOk' P w F B s.heap.length a o y { blk with kind := .app } := by
            rcases hk with hk | hk
            · obtain ⟨v, w', c, hrun, e1, e2, e3, hsz, hold, hnew, hver, hx⟩ := hk
              refine ⟨v, w', c, hrun, e1, e2, e3, hsz, hold, fun B' hE => ?_, hver, hx⟩
              have := hnew B' hE
              simp only [BRel, hkd] at this ⊢
              exact this
            · obtain ⟨_, _, _, _, _, _, _, _, _, _, ha, _⟩ := hk
              rw [hkd] at ha
              cases ha
          have hfresh : B s.heap.length = none := by
            cases hb : B s.heap.length with
            | none => rfl
            | some e =>
              obtain ⟨g, v, c⟩ := e
              obtain ⟨_, k, _⟩ := hS.hr.at_ _ _ _ _ hb
              rw [List.getElem?_eq_none (Nat.le_refl _)] at k
              cases k
          obtain ⟨v, w', B', hrun, hX, hR', hv, hn, ho⟩ := new_sound (Hb' := s.heap ++ [{ blk with kind := .app }]) hk2 hfresh hS.hr (by simp) (fun b e hb => by
            obtain ⟨g, v, c⟩ := e
            obtain ⟨_, k, _⟩ := hS.hr.at_ _ _ _ _ hb
            rw [List.getElem?_append_left (by rcases Nat.lt_or_ge b s.heap.length with h' | h'; exact h'; rw [List.getElem?_eq_none h'] at k; cases k)])
          rw [wanted_ok (fun t _ => hS.env t) hw, if_pos rfl]
          left
          simp only [Oper.wp, hrun, Oper.upon]
          obtain ⟨q1, q2, q3⟩ := dput_ok hE (fun t => (hS.env t).ext hX) hS.size hv
          refine hK _ _ B' hX ⟨q1, q2, hR', fun b hb => ?_⟩ q3
          simp only [List.length_append, List.length_cons, List.length_nil] at hb
          by_cases e : b = s.heap.length
          · subst e; exact hn
          · rw [ho b e]; exact hS.full b (by omega)
        · exact step_ok hC h hS hK
      · split at h
        · rename_i y hy
          obtain ⟨E, hE, rfl⟩ := Option.map_eq_some_iff.1 h
          unfold frozen at hy
          split at hy <;> try (cases hy; done)
          rename_i x blk hr
          have hk : NewOk' P w F B s.heap.length a o x blk := by
            rcases aop_sound hS.hr.weak hS.eval hr with hk | hk
            · exact hk
            · obtain ⟨_, _, _, _, _, _, _, _, _, _, ha, _⟩ := hk
              unfold freeze at hy
              rw [ha] at hy
              cases hy
          obtain ⟨v, w', hrun, hX, hR', hv⟩ := frz_ok hk hS.hr hy
          rw [wanted_ok (fun t _ => hS.env t) hw, if_pos rfl]
          left
          simp only [Oper.wp, hrun, Oper.upon]
          obtain ⟨q1, q2, q3⟩ := dput_ok hE (fun t => (hS.env t).ext hX) hS.size hv
          exact hK _ _ B hX ⟨q1, q2, hR', hS.full⟩ q3
        · exact step_ok hC h hS hK
    · exact step_ok hC h hS hK
  · exact step_ok hC h hS hK
theorem opsZ_ok {P : Program} {call : Fun} (hC : FunOk P call) {F : Nat → Prop} {n : Nat} {frz : List Nat} {ops : Array Oper} {Q : Exit → Act → World → Prop} : ∀ (m i : Nat) (w : World) (B : BM) (a : Act) (s s' : St), i + m = ops.size → aopsZ P call frz n ops (ops.toList.drop i) s = some s' → SR w F B n s.env s.heap a →
    (∀ a' w' B', Ext w B w' B' → SR w' F B' n s'.env s'.heap a' → a'.defers = a.defers → Q .normal a' w') → wpOps P ops Q (List.range' i m) a w := by
  intro m
  induction m using Nat.strongRecOn with
  | _ m ih =>
    intro i w B a s s' hm h hS hQ
    match m, ih, hm with
    | 0, _, hm =>
      rw [List.drop_eq_nil_of_le (by simp; omega)] at h
      simp only [aopsZ, Option.some.injEq] at h
      subst h
      simp only [List.range', wpOps]
      exact hQ _ _ B (Ext.refl w B) hS rfl
    | 1, ih, hm =>
      have hi : i < ops.size := by omega
      rw [List.drop_eq_getElem_cons (by simpa using hi), List.drop_eq_nil_of_le (by simp; omega)] at h
      simp only [aopsZ, Array.getElem_toList] at h
      simp only [List.range', wpOps, Array.getElem?_eq_getElem hi]
      exact zstep_ok hC h hS hQ
    | 2, ih, hm =>
      have hi : i < ops.size := by omega
      have hi1 : i + 1 < ops.size := by omega
      rw [List.drop_eq_getElem_cons (by simpa using hi), List.drop_eq_getElem_cons (by simpa using hi1), List.drop_eq_nil_of_le (by simp; omega)] at h
      simp only [aopsZ, Array.getElem_toList] at h
      split at h
      · rename_i s1 h1
        cases h
        unfold zvar2 at h1
        split at h1 <;> try (cases h1; done)
        rename_i t y e hv
        have hg := isVar_some hv
        simp only [List.range', wpOps, Array.getElem?_eq_getElem hi, Array.getElem?_eq_getElem hi1]
        have w1 : ∀ yl : Nat → Option Bool, Region.wanted ops[i] yl = true := fun yl => by unfold Region.wanted; rw [hg.2.2.1]
        have w2 : ∀ yl : Nat → Option Bool, Region.wanted ops[i + 1] yl = true := fun yl => by unfold Region.wanted; rw [hg.2.2.2.2.2.1]
        simp only [w1, w2, if_true]
        left
        refine zvar_ok (ops := ops) (Q := Q) (K := fun a w => Q .normal a w) hv h1 hS (fun a1 w1 hw => .inl hw) (fun a1 w1 hX hS1 hd => hQ a1 w1 B hX hS1 hd)
      · split at h <;> try (cases h; done)
        rename_i s1 h1
        simp only [List.range', wpOps, Array.getElem?_eq_getElem hi, Array.getElem?_eq_getElem hi1]
        refine zstep_ok hC h1 hS (fun a1 w1 B1 hX hS1 hd => ?_)
        exact zstep_ok hC h hS1 (fun a' w' B' hX' hS' hd' => hQ a' w' B' (hX.trans hX') hS' (hd'.trans hd))
    | m + 3, ih, hm =>
      have hi : i < ops.size := by omega
      have hi1 : i + 1 < ops.size := by omega
      have hi2 : i + 1 + 1 < ops.size := by omega
      rw [List.drop_eq_getElem_cons (by simpa using hi), List.drop_eq_getElem_cons (by simpa using hi1), List.drop_eq_getElem_cons (by simpa using hi2)] at h
      simp only [aopsZ, Array.getElem_toList] at h
      split at h
      · rename_i s1 h1
        unfold zvar2 at h1
        split at h1 <;> try (cases h1; done)
        rename_i t y e hv
        have hg := isVar_some hv
        rw [show m + 3 = (m + 1) + 1 + 1 from rfl]
        simp only [List.range'_succ, wpOps, Array.getElem?_eq_getElem hi, Array.getElem?_eq_getElem hi1]
        have w1 : ∀ yl : Nat → Option Bool, Region.wanted ops[i] yl = true := fun yl => by unfold Region.wanted; rw [hg.2.2.1]
        have w2 : ∀ yl : Nat → Option Bool, Region.wanted ops[i + 1] yl = true := fun yl => by unfold Region.wanted; rw [hg.2.2.2.2.2.1]
        simp only [w1, w2, if_true]
        left
        refine zvar_ok (ops := ops) (Q := Q) (K := wpOps P ops Q (List.range' (i + 1 + 1) (m + 1))) hv h1 hS (fun a1 w1 hw => ?_) (fun a1 w1 hX hS1 hd => ih (m + 1) (by omega) (i + 1 + 1) w1 B a1 s1 s' (by omega) (by rw [List.drop_eq_getElem_cons (by simpa using hi2)]; simpa using h) hS1 (fun a' w' B' hX' hS' hd' => hQ a' w' B' (hX.trans hX') hS' (hd'.trans hd)))
        rw [List.range'_succ] at hw
        exact .inl hw
      · split at h
        · rename_i s1 h1
          unfold zvar3 at h1
          split at h1 <;> try (cases h1; done)
          rename_i t y e hv
          split at h1 <;> try (cases h1; done)
          rename_i u x hmid
          split at h1 <;> try (cases h1; done)
          rename_i s2 h2
          obtain ⟨E, hE, rfl⟩ := Option.map_eq_some_iff.1 h1
          simp only [dput] at hE
          split at hE <;> try (cases hE; done)
          rename_i hun
          cases hE
          have hg := isVar_some hv
          have hgm := midOf_some hmid
          rw [show m + 3 = m + 1 + 1 + 1 from rfl]
          simp only [List.range'_succ, wpOps, Array.getElem?_eq_getElem hi, Array.getElem?_eq_getElem hi1, Array.getElem?_eq_getElem hi2]
          have w1 : ∀ yl : Nat → Option Bool, Region.wanted ops[i] yl = true := fun yl => by unfold Region.wanted; rw [hg.2.2.1]
          have w2 : ∀ yl : Nat → Option Bool, Region.wanted ops[i + 1] yl = true := fun yl => by unfold Region.wanted; rw [hgm.2.2.2.2.2]
          have w3 : ∀ yl : Nat → Option Bool, Region.wanted ops[i + 1 + 1] yl = true := fun yl => by unfold Region.wanted; rw [hg.2.2.2.2.2.1]
          simp only [w1, w2, w3, if_true]
          left
          refine zvar3_ok (ops := ops) (Q := Q) (K := wpOps P ops Q (List.range' (i + 1 + 1 + 1) m)) hv hmid h2 hun rfl hS (fun a1 w1 hw => .inl hw) (fun a1 w1 hw => .inl hw) (fun a1 w1 hX hS1 hd => ih m (by omega) (i + 1 + 1 + 1) w1 B a1 _ s' (by omega) h hS1 (fun a' w' B' hX' hS' hd' => hQ a' w' B' (hX.trans hX') hS' (hd'.trans hd)))
        · split at h <;> try (cases h; done)
          rename_i s1 h1
          rw [show m + 3 = (m + 2) + 1 from rfl]
          simp only [List.range'_succ, wpOps, Array.getElem?_eq_getElem hi]
          refine zstep_ok hC h1 hS (fun a1 w1 B1 hX hS1 hd => ?_)
          have := ih (m + 2) (by omega) (i + 1) w1 B1 a1 s1 s' (by omega) (by rw [List.drop_eq_getElem_cons (by simpa using hi1), List.drop_eq_getElem_cons (by simpa using hi2)]; simpa using h) hS1 (fun a' w' B' hX' hS' hd' => hQ a' w' B' (hX.trans hX') hS' (hd'.trans hd))
          simpa only [List.range'_succ, wpOps] using this
def exitOf : AX → Exit
  | .normal => .normal
  | .exit i => .exit i
  | .goto l => .goto l
  | .ret => .ret
def DrawsTo (P : Program) (n id : Nat) (ops : Array Oper) (s s' : St) : Prop :=
  ∀ (w : World) (F : Nat → Prop) (B : BM) (a : Act) (Q : Exit → Act → World → Prop), SR w F B n s.env s.heap a →
    (∀ a' w' B', Ext w B w' B' → SR w' F B' n s'.env s'.heap a' → a'.defers = a.defers → Q .normal a' w') → (Code.region id ops true).wp P Q a w
def DrawOk (P : Program) (pure_ : FuncId → Bool) (call : Fun) (okd : Array Oper → Bool) : Prop :=
  (∀ (n id : Nat) (ops : Array Oper) (s s' : St), okd ops = true → aops P call n ops ops.toList s = some s' → DrawsTo P n id ops s s') ∧
  (∀ (n id : Nat) (ops : Array Oper) (s s' : St) (l : List (Bool × Bool)), trace P call pure_ n ops ops.toList s = some (s', l) → pairsOk ops (fun i => (l[i]?).getD (false, false)) = true → DrawsTo P n id ops s s') ∧
  (∀ (n id : Nat) (ops : Array Oper) (rs : List Nat) (s s' : St) (x : AX), dynR P call pure_ n ops rs s = some (x, s') → x = .normal ∧ DrawsTo P n id ops s s')
theorem loop_ok {P : Program} {F : Nat → Prop} {n : Nat} {c : Code} {f : St → Option (AX × St)}
    (hf : ∀ (s s' : St) (x : AX) (w : World) (B : BM) (a : Act) (Q : Exit → Act → World → Prop), f s = some (x, s') → SR w F B n s.env s.heap a → (∀ a' w' B', Ext w B w' B' → SR w' F B' n s'.env s'.heap a' → a'.defers = a.defers → Q (exitOf x) a' w') → c.wp P Q a w) :
    ∀ (k : Nat) (s s' : St) (x : AX) (w : World) (B : BM) (a : Act) (Q : Exit → Act → World → Prop), loopN f k s = some (x, s') → SR w F B n s.env s.heap a → (∀ a' w' B', Ext w B w' B' → SR w' F B' n s'.env s'.heap a' → a'.defers = a.defers → Q (exitOf x) a' w') →
      ∀ (b : Frame) (K : List Item) (cs : List Frame), ∃ e a' w', Q e a' w' ∧ Arrives P (lone (b.at a (.code c :: .inLoop c :: K)) cs w) b K cs e a' w'
  | 0, s, s', x, w, B, a, Q, h, _, _ => by simp only [loopN] at h; cases h
  | k + 1, s, s', x, w, B, a, Q, h, hS, hQ => by
    intro b K cs
    simp only [loopN] at h
    split at h
    · rename_i s1 h1
      obtain ⟨e, a1, w1, hq, harr⟩ := hf s s1 .normal w B a (Exit.then (fun a1 w1 => ∃ B1, Ext w B w1 B1 ∧ SR w1 F B1 n s1.env s1.heap a1 ∧ a1.defers = a.defers) (fun _ _ _ => False)) h1 hS (fun a' w' B' hX hS' hd => ⟨B', hX, hS', hd⟩) b (.inLoop c :: K) cs
      cases e with
      | normal =>
        obtain ⟨B1, hX, hS1, hd⟩ := hq
        obtain ⟨e2, a2, w2, hq2, harr2⟩ := loop_ok hf k s1 s' x w1 B1 a1 Q h hS1 (fun a' w' B' hX' hS' hd' => hQ a' w' B' (hX.trans hX') hS' (hd'.trans hd)) b K cs
        exact ⟨e2, a2, w2, hq2, .of_steps (Steps.trans harr (.one step_inLoop)) harr2⟩
      | exit id => exact hq.elim
      | goto l => exact hq.elim
      | ret => exact hq.elim
      | panic ch => exact hq.elim
      | outgrown => exact hq.elim
    · rename_i hne
      have h1 : f s = some (x, s') := h
      cases x with
      | normal => exact absurd h1 (fun e => hne s' e)
      | exit id =>
        obtain ⟨e, a1, w1, hq, harr⟩ := hf s s' (.exit id) w B a (fun e a1 w1 => e = .exit id ∧ Q e a1 w1) h1 hS (fun a' w' B' hX hS' hd => ⟨rfl, hQ a' w' B' hX hS' hd⟩) b (.inLoop c :: K) cs
        obtain ⟨rfl, hq⟩ := hq
        exact ⟨_, a1, w1, hq, .pass (x := .inLoop c) rfl (fun _ _ => .inl (by simp)) harr⟩
      | goto l =>
        obtain ⟨e, a1, w1, hq, harr⟩ := hf s s' (.goto l) w B a (fun e a1 w1 => e = .goto l ∧ Q e a1 w1) h1 hS (fun a' w' B' hX hS' hd => ⟨rfl, hQ a' w' B' hX hS' hd⟩) b (.inLoop c :: K) cs
        obtain ⟨rfl, hq⟩ := hq
        exact ⟨_, a1, w1, hq, .pass (x := .inLoop c) rfl (fun _ _ => .inl (by simp)) harr⟩
      | ret =>
        obtain ⟨e, a1, w1, hq, harr⟩ := hf s s' .ret w B a (fun e a1 w1 => e = .ret ∧ Q e a1 w1) h1 hS (fun a' w' B' hX hS' hd => ⟨rfl, hQ a' w' B' hX hS' hd⟩) b (.inLoop c :: K) cs
        obtain ⟨rfl, hq⟩ := hq
        exact ⟨_, a1, w1, hq, .pass (x := .inLoop c) rfl (fun _ _ => .inl (by simp)) harr⟩
def regs (okd : Array Oper → Bool) (dyn : Nat → Bool) : Code → Bool
  | .region id ops true => dyn id || okd ops
  | .seq a b => regs okd dyn a && regs okd dyn b
  | .cond _ a b => regs okd dyn a && regs okd dyn b
  | .block _ b => regs okd dyn b
  | .loop b => regs okd dyn b
  | .scope b => regs okd dyn b
  | _ => true
def JumpOk (P : Program) (F : Nat → Prop) (n : Nat) (okd : Array Oper → Bool) (dyn : Nat → Bool) (jump : Code → Code → St → Option (AX × St)) : Prop :=
  ∀ (b rest : Code) (s s' : St) (x : AX) (w : World) (B : BM) (a : Act) (Q : Exit → Act → World → Prop), regs okd dyn b = true → regs okd dyn rest = true → jump b rest s = some (x, s') → SR w F B n s.env s.heap a →
    (∀ a' w' B', Ext w B w' B' → SR w' F B' n s'.env s'.heap a' → a'.defers = a.defers → Q (exitOf x) a' w') →
    ∀ (fr : Frame) (K : List Item) (cs : List Frame), ∃ e a' w', Q e a' w' ∧ Arrives P (lone (fr.at a (.code rest :: .inScope b :: K)) cs w) fr K cs e a' w'
theorem regs_rest {okd : Array Oper → Bool} {dyn : Nat → Bool} {l : Nat} : ∀ {b rest : Code}, findLabel b l = some rest → regs okd dyn b = true → regs okd dyn rest = true
  | .seq a b, rest, h, hr => by
    simp only [findLabel] at h
    simp only [regs, Bool.and_eq_true] at hr
    split at h
    · rename_i r hr'
      cases h
      simp only [regs, Bool.and_eq_true]
      exact ⟨regs_rest hr' hr.1, hr.2⟩
    · exact regs_rest h hr.2
  | .label l', rest, h, _ => by
    simp only [findLabel] at h
    split at h
    · cases h; rfl
    · cases h
  | .skip, _, h, _ => by simp only [findLabel] at h; cases h
  | .region _ _ _, _, h, _ => by simp only [findLabel] at h; cases h
  | .cond _ _ _, _, h, _ => by simp only [findLabel] at h; cases h
  | .block _ _, _, h, _ => by simp only [findLabel] at h; cases h
  | .loop _, _, h, _ => by simp only [findLabel] at h; cases h
  | .rangeFunc _ _ _ _, _, h, _ => by simp only [findLabel] at h; cases h
  | .exit _, _, h, _ => by simp only [findLabel] at h; cases h
  | .scope _, _, h, _ => by simp only [findLabel] at h; cases h
  | .goto _, _, h, _ => by simp only [findLabel] at h; cases h
  | .ret, _, h, _ => by simp only [findLabel] at h; cases h
  | .refuse _, _, h, _ => by simp only [findLabel] at h; cases h
theorem scope_ok {P : Program} {F : Nat → Prop} {n : Nat} {okd : Array Oper → Bool} {dyn : Nat → Bool} {jump : Code → Code → St → Option (AX × St)} (hJ : JumpOk P F n okd dyn jump) {b c : Code} (hb : regs okd dyn b = true) {r : Option (AX × St)} {s s' : St} {x : AX} {w : World} {B : BM} {a : Act} {Q : Exit → Act → World → Prop}
    (hc : ∀ (s1 : St) (x1 : AX) (Q1 : Exit → Act → World → Prop), r = some (x1, s1) → (∀ a' w' B', Ext w B w' B' → SR w' F B' n s1.env s1.heap a' → a'.defers = a.defers → Q1 (exitOf x1) a' w') → c.wp P Q1 a w)
    (h : (match (generalizing := false) r with | some (.goto l, s1) => (match (generalizing := false) findLabel b l with | some rest => jump b rest s1 | none => some (.goto l, s1)) | r => r) = some (x, s'))
    (hQ : ∀ a' w' B', Ext w B w' B' → SR w' F B' n s'.env s'.heap a' → a'.defers = a.defers → Q (exitOf x) a' w') (fr : Frame) (K : List Item) (cs : List Frame) :
    ∃ e a' w', Q e a' w' ∧ Arrives P (lone (fr.at a (.code c :: .inScope b :: K)) cs w) fr K cs e a' w' := by
  cases r with
  | none => cases h
  | some p =>
    obtain ⟨x1, s1⟩ := p
    cases x1 with
    | normal =>
      cases h
      obtain ⟨e, a1, w1, hq, harr⟩ := hc s' .normal (fun e a1 w1 => e = .normal ∧ Q e a1 w1) rfl (fun a' w' B' hX hS' hd => ⟨rfl, hQ a' w' B' hX hS' hd⟩) fr (.inScope b :: K) cs
      obtain ⟨rfl, hq⟩ := hq
      exact ⟨.normal, a1, w1, hq, Steps.trans harr (.one step_inScope)⟩
    | exit id =>
      cases h
      obtain ⟨e, a1, w1, hq, harr⟩ := hc s' (.exit id) (fun e a1 w1 => e = .exit id ∧ Q e a1 w1) rfl (fun a' w' B' hX hS' hd => ⟨rfl, hQ a' w' B' hX hS' hd⟩) fr (.inScope b :: K) cs
      obtain ⟨rfl, hq⟩ := hq
      exact ⟨.exit id, a1, w1, hq, fun k' hk => harr k' (by simp [exitTo, hk])⟩
    | ret =>
      cases h
      obtain ⟨e, a1, w1, hq, harr⟩ := hc s' .ret (fun e a1 w1 => e = .ret ∧ Q e a1 w1) rfl (fun a' w' B' hX hS' hd => ⟨rfl, hQ a' w' B' hX hS' hd⟩) fr (.inScope b :: K) cs
      obtain ⟨rfl, hq⟩ := hq
      exact ⟨.ret, a1, w1, hq, harr⟩
    | goto l =>
      simp only at h
      cases hf : findLabel b l with
      | none =>
        rw [hf] at h
        cases h
        obtain ⟨e, a1, w1, hq, harr⟩ := hc s' (.goto l) (fun e a1 w1 => e = .goto l ∧ Q e a1 w1) rfl (fun a' w' B' hX hS' hd => ⟨rfl, hQ a' w' B' hX hS' hd⟩) fr (.inScope b :: K) cs
        obtain ⟨rfl, hq⟩ := hq
        exact ⟨.goto l, a1, w1, hq, fun k' hk => harr k' (by simp only [gotoIn, hf]; exact hk)⟩
      | some rest =>
        rw [hf] at h
        obtain ⟨e, a1, w1, hq, harr⟩ := hc s1 (.goto l) (fun e a1 w1 => e = .goto l ∧ ∃ B1, Ext w B w1 B1 ∧ SR w1 F B1 n s1.env s1.heap a1 ∧ a1.defers = a.defers) rfl (fun a' w' B' hX hS' hd => ⟨rfl, B', hX, hS', hd⟩) fr (.inScope b :: K) cs
        obtain ⟨rfl, B1, hX, hS1, hd⟩ := hq
        obtain ⟨e2, a2, w2, hq2, harr2⟩ := hJ b rest s1 s' x w1 B1 a1 Q hb (regs_rest hf hb) h hS1 (fun a' w' B' hX' hS' hd' => hQ a' w' B' (hX.trans hX') hS' (hd'.trans hd)) fr K cs
        exact ⟨e2, a2, w2, hq2, .of_steps (harr _ (by simp only [gotoIn, hf])) harr2⟩
theorem code_ok {P : Program} {call : Fun} (hC : FunOk P call) {okd : Array Oper → Bool} {pure_ : FuncId → Bool} {dyn : Nat → Bool} {callD : Fun} (hD : DrawOk P pure_ callD okd) {keep : Nat → Option (List Nat)} {F : Nat → Prop} {n k : Nat} {jump : Code → Code → St → Option (AX × St)} (hJ : JumpOk P F n okd dyn jump) : ∀ (c : Code) (hc : regs okd dyn c = true) (s s' : St) (x : AX) (w : World) (B : BM) (a : Act) (Q : Exit → Act → World → Prop), acode P call callD jump pure_ dyn keep n k c s = some (x, s') → SR w F B n s.env s.heap a →
    (∀ a' w' B', Ext w B w' B' → SR w' F B' n s'.env s'.heap a' → a'.defers = a.defers → Q (exitOf x) a' w') → c.wp P Q a w
  | .skip, hc, s, s', x, w, B, a, Q, h, hS, hQ => by
    simp only [acode, Option.some.injEq, Prod.mk.injEq] at h
    obtain ⟨rfl, rfl⟩ := h
    exact wp_skip (hQ _ _ B (Ext.refl w B) hS rfl)
  | .label l, hc, s, s', x, w, B, a, Q, h, hS, hQ => by
    simp only [acode, Option.some.injEq, Prod.mk.injEq] at h
    obtain ⟨rfl, rfl⟩ := h
    exact wp_label (hQ _ _ B (Ext.refl w B) hS rfl)
  | .ret, hc, s, s', x, w, B, a, Q, h, hS, hQ => by
    simp only [acode, Option.some.injEq, Prod.mk.injEq] at h
    obtain ⟨rfl, rfl⟩ := h
    exact wp_ret (hQ _ _ B (Ext.refl w B) hS rfl)
  | .exit id, hc, s, s', x, w, B, a, Q, h, hS, hQ => by
    simp only [acode, Option.some.injEq, Prod.mk.injEq] at h
    obtain ⟨rfl, rfl⟩ := h
    exact wp_exit (hQ _ _ B (Ext.refl w B) hS rfl)
  | .region id ops draw, hc, s, s', x, w, B, a, Q, h, hS, hQ => by
    simp only [acode] at h
    cases draw with
    | true =>
      rw [if_pos rfl] at h
      by_cases hdy : dyn id = true
      · rw [if_pos hdy] at h
        split at h
        · rename_i rs hrs
          obtain ⟨rfl, hd⟩ := hD.2.2 n id ops rs s s' x h
          exact hd w F B a Q hS hQ
        split at h <;> try (cases h; done)
        rename_i s1 l h1
        split at h <;> try (cases h; done)
        rename_i hp
        cases h
        exact hD.2.1 n id ops s _ l h1 hp w F B a Q hS hQ
      · rw [if_neg hdy] at h
        obtain ⟨s1, h1, e⟩ := Option.map_eq_some_iff.1 h
        cases e
        simp only [regs, Bool.or_eq_true] at hc
        exact hD.1 n id ops s _ (hc.resolve_left hdy) h1 w F B a Q hS hQ
    | false =>
      rw [if_neg (by simp)] at h
      obtain ⟨s1, h1, e⟩ := Option.map_eq_some_iff.1 h
      cases e
      refine wp_region ?_
      rw [List.range_eq_range']
      exact opsZ_ok hC ops.size 0 w B a s _ (by omega) (by simpa using h1) hS hQ
  | .seq c d, hc, s, s', x, w, B, a, Q, h, hS, hQ => by
    simp only [regs, Bool.and_eq_true] at hc
    simp only [acode] at h
    refine wp_seq ?_
    split at h
    · rename_i s1 h1
      exact code_ok hC hD hJ c hc.1 s s1 .normal w B a _ h1 hS (fun a1 w1 B1 hX hS1 hd => code_ok hC hD hJ d hc.2 s1 s' x w1 B1 a1 Q h hS1 (fun a' w' B' hX' hS' hd' => hQ a' w' B' (hX.trans hX') hS' (hd'.trans hd)))
    · rename_i hne
      refine code_ok hC hD hJ c hc.1 s s' x w B a _ h hS (fun a1 w1 B1 hX hS1 hd => ?_)
      have := hQ a1 w1 B1 hX hS1 hd
      cases x with
      | normal => exact absurd h (fun e => hne s' e)
      | exit id => exact this
      | goto l => exact this
      | ret => exact this
  | .cond c d e, hc, s, s', x, w, B, a, Q, h, hS, hQ => by
    simp only [regs, Bool.and_eq_true] at hc
    simp only [acode] at h
    split at h <;> try (cases h; done)
    rename_i t ht
    have hv := hS.eval c
    rw [ht] at hv
    simp only [VR] at hv
    refine wp_cond hv ?_
    cases t
    · exact code_ok hC hD hJ e hc.2 s s' x w B a Q h hS hQ
    · exact code_ok hC hD hJ d hc.1 s s' x w B a Q h hS hQ
  | .block id c, hc, s, s', x, w, B, a, Q, h, hS, hQ => by
    simp only [acode] at h
    refine wp_block ?_
    split at h
    · rename_i i s1 h1
      refine code_ok hC hD hJ c hc s s1 (.exit i) w B a _ h1 hS (fun a1 w1 B1 hX hS1 hd => ?_)
      split at h
      · rename_i hi
        cases h
        simp only [exitOf, Exit.inBlock, if_pos hi]
        exact hQ a1 w1 B1 hX hS1 hd
      · rename_i hi
        cases h
        simp only [exitOf, Exit.inBlock, if_neg hi]
        exact hQ a1 w1 B1 hX hS1 hd
    · rename_i hne
      refine code_ok hC hD hJ c hc s s' x w B a _ h hS (fun a1 w1 B1 hX hS1 hd => ?_)
      have := hQ a1 w1 B1 hX hS1 hd
      cases x with
      | normal => exact this
      | exit id => exact absurd h (fun e => hne _ s' e)
      | goto l => exact this
      | ret => exact this
  | .loop c, hc, s, s', x, w, B, a, Q, h, hS, hQ => by
    simp only [acode] at h
    intro b K cs
    obtain ⟨e, a', w', hq, harr⟩ := loop_ok (c := c) (fun s1 s2 x1 w1 B1 a1 Q1 h1 hS1 hQ1 => code_ok hC hD hJ c hc (⟨prune s1.env ((firstId c).bind keep), s1.heap⟩ : St) s2 x1 w1 B1 a1 Q1 h1 ⟨fun t => by
      rcases eget_prune s1.env ((firstId c).bind keep) t with e | e
      · show VR _ _ _ (eget (prune _ _) t) _
        rw [e]; exact hS1.env t
      · show VR _ _ _ (eget (prune _ _) t) _
        rw [e]; simp only [VR], hS1.size, hS1.hr, hS1.full⟩ hQ1) k s s' x w B a Q h hS hQ b K cs
    exact ⟨e, a', w', hq, .of_steps (.one step_loop) harr⟩
  | .scope c, hc, s, s', x, w, B, a, Q, h, hS, hQ => by
    simp only [acode] at h
    intro fr K cs
    obtain ⟨e, a', w', hq, harr⟩ := scope_ok hJ (b := c) (c := c) hc (r := acode P call callD jump pure_ dyn keep n k c s) (s := s) (fun s1 x1 Q1 h1 hQ1 => code_ok hC hD hJ c hc s s1 x1 w B a Q1 h1 hS hQ1) h hQ fr K cs
    exact ⟨e, a', w', hq, .of_steps (.one step_scope) harr⟩
  | .goto l, hc, s, s', x, w, B, a, Q, h, hS, hQ => by
    simp only [acode, Option.some.injEq, Prod.mk.injEq] at h
    obtain ⟨rfl, rfl⟩ := h
    exact wp_goto (hQ _ _ B (Ext.refl w B) hS rfl)
  | .rangeFunc _ _ _ _, _, _, _, _, _, _, _, _, h, _, _ => by simp only [acode] at h; cases h
  | .refuse _, _, _, _, _, _, _, _, _, h, _, _ => by simp only [acode] at h; cases h
theorem jump_ok {P : Program} {call : Fun} (hC : FunOk P call) {okd : Array Oper → Bool} {pure_ : FuncId → Bool} {dyn : Nat → Bool} {callD : Fun} (hD : DrawOk P pure_ callD okd) {keep : Nat → Option (List Nat)} {F : Nat → Prop} {n k : Nat} : ∀ j, JumpOk P F n okd dyn (jumpN P call callD pure_ dyn keep n k j)
  | 0 => fun b rest s s' x w B a Q _ _ h => by simp only [jumpN] at h; cases h
  | j + 1 => fun b rest s s' x w B a Q hb hr h hS hQ => by
    have ih := jump_ok hC (dyn := dyn) hD (keep := keep) (F := F) (n := n) (k := k) j
    simp only [jumpN] at h
    exact scope_ok ih hb (r := acode P call callD (jumpN P call callD pure_ dyn keep n k j) pure_ dyn keep n k rest s) (s := s) (fun s1 x1 Q1 h1 hQ1 => code_ok hC hD ih rest hr s s1 x1 w B a Q1 h1 hS hQ1) h hQ
end Go.Proofs.YtpgipdajinkdgaaGreatA
