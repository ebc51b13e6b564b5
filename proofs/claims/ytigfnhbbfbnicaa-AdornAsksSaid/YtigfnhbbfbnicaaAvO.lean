/- A part of the proof of AdornAsks: functions of the program, run by the evaluator. -/

/- The abstract evaluator is right: functions. -/
import Derived.Test.YtigfnhbbfbnicaaAvM
namespace Go.Proofs.YtigfnhbbfbnicaaA
open Go Go.RowKit
set_option linter.all false
set_option linter.unusedSectionVars false
set_option linter.constructorNameAsVariable false
set_option linter.unusedVariables false
set_option linter.unusedSimpArgs false
section
variable {P : Program} {w : World} {F : Nat → Prop} {B : BM} {n : Nat} {a : Act}
def resOf (tmps : Array Value) : ResultVar → Sem Value
  | .tmp t => pure (tmps.getD t undef)
  | .cell b t => do loadVar t (← asAddr (tmps.getD b undef))
theorem results_eq (fn : Func) (tmps : Array Value) : results fn tmps = (do
    let vs ← fn.results.mapM (resOf tmps)
    pure (if h : vs.size = 1 then vs[0] else .tuple vs)) := rfl
theorem ares_ok {E : Env} {H : List Blk} (hS : SR w F B n E H a) : ∀ {rs : List ResultVar} {xs : List AV}, ares P H E rs = some xs →
    ∃ vs, (rs.mapM (resOf a.tmps)).run P w = .ok vs w ∧ VRL w (Forb F B) B xs vs
  | [], xs, h => by
    simp only [ares, Option.some.injEq] at h
    subst h
    exact ⟨[], rfl, by simp only [VRL]⟩
  | .tmp t :: rs, xs, h => by
    simp only [ares] at h
    obtain ⟨ys, hy, rfl⟩ := Option.map_eq_some_iff.1 h
    obtain ⟨vs, h1, h2⟩ := ares_ok hS hy
    refine ⟨a.tmps.getD t undef :: vs, ?_, by simp only [VRL]; exact ⟨_, _, rfl, hS.env t, h2⟩⟩
    simp only [List.mapM_cons, Sem.run_bind, resOf, Sem.run_pure, Result.andThen_ok, h1]
  | .cell b t :: rs, xs, h => by
    simp only [ares] at h
    split at h <;> try (cases h; done)
    rename_i b' off ver e1
    split at h <;> try (cases h; done)
    rename_i blk hb
    split at h <;> try (cases h; done)
    rename_i x ys hx hy
    cases h
    obtain ⟨vs, h1, h2⟩ := ares_ok hS hy
    have hv := hS.env b
    rw [e1] at hv
    obtain ⟨g, c, hv, _, hbr⟩ := ptr_at hS.hr.weak hv hb
    obtain ⟨us, hus, _, hc⟩ := brel_cells hbr
    obtain ⟨v, hrun, hvr⟩ := rd_load (P := P) hus hc hx
    rw [addr_add, Nat.zero_add] at hrun
    refine ⟨v :: vs, ?_, by simp only [VRL]; exact ⟨_, _, rfl, hvr, h2⟩⟩
    have h3 : (resOf a.tmps (.cell b t)).run P w = .ok v w := by
      simp only [resOf, Sem.run_bind, hv, asAddr, Sem.run_pure, Result.andThen_ok, hrun]
    simp only [List.mapM_cons, Sem.run_bind, h3, Sem.run_pure, Result.andThen_ok, h1]
theorem results_ok {E : Env} {H : List Blk} (hS : SR w F B n E H a) {fn : Func} {xs : List AV} (h : ares P H E fn.results.toList = some xs) : ∃ v, (results fn a.tmps).run P w = .ok v w ∧ VR w (Forb F B) B (aresult xs) v := by
  obtain ⟨vs, h1, h2⟩ := ares_ok hS h
  have e : fn.results = fn.results.toList.toArray := by simp
  refine ⟨if h : vs.toArray.size = 1 then vs.toArray[0] else .tuple vs.toArray, ?_, ?_⟩
  · rw [results_eq, e, List.mapM_toArray]
    simp only [Sem.run_bind, Sem.run_map, h1, Result.andThen_ok, Sem.run_pure]
  · cases xs with
    | nil =>
      simp only [VRL] at h2
      subst h2
      rw [dif_neg (by simp)]
      simp only [aresult, VR]
      exact ⟨#[], rfl, by simp only [VRL]⟩
    | cons x r =>
      cases r with
      | nil =>
        simp only [VRL] at h2
        obtain ⟨v, r, rfl, h2, rfl⟩ := h2
        rw [dif_pos (by simp)]
        exact h2
      | cons y r =>
        have hl := h2.length
        rw [dif_neg (by simp only [List.size_toArray, hl, List.length_cons]; omega)]
        simp only [aresult, VR]
        exact ⟨_, rfl, by simpa using h2⟩
end
theorem abody_ok {P : Program} (hN : ∀ (f : FuncId) (fn : Func), P.funcs[f]? = some fn → fn.name ≠ "runtime.NumGoroutine") {C : Cfg} {call callD : Fun} (hC : FunOk P call) {okd : Array Oper → Bool} (hD : DrawOk P (pureOf C.mode) callD okd) (hU : ∀ (f : FuncId) (fn : Func) (c : Code), C.use f = true → P.funcs[f]? = some fn → fn.body = some c → regs okd (C.dyn f) c = true) {k : Nat} {f : FuncId} {args : List AV} {H H' : List Blk} {r : AV} (h : abody P C call callD k f args H = some (r, H')) :
    Enter P f ∧ CallOk P f args H r H' := by
  unfold abody at h
  split at h <;> try (cases h; done)
  rename_i hu
  split at h <;> try (cases h; done)
  rename_i fn hf
  split at h <;> try (cases h; done)
  rename_i c hb
  refine ⟨⟨fn, hf, hN f fn hf, by rw [hb]; rfl⟩, fun w F B vs hR hF hv => ?_⟩
  refine calls_of_wp hf hb ?_
  have hl := hv.length
  have hS : SR w F B (max fn.ntmps args.length) (zipEnv 0 args) H { tmps := vs.toArray ++ Array.replicate (fn.ntmps - vs.toArray.size) undef, defers := [] } := by
    refine ⟨fun t => ?_, ?_, hR, hF⟩
    · rw [eget_zip, if_pos (Nat.zero_le _), Nat.sub_zero]
      cases hx : args[t]? with
      | none => simp only [Option.getD_none, VR]
      | some x =>
        obtain ⟨y, hy, hxy⟩ := VRL.get hv hx
        have : (vs.toArray ++ Array.replicate (fn.ntmps - vs.toArray.size) undef).getD t undef = y := by
          rw [Array.getD_eq_getD_getElem?, Array.getElem?_append_left (by simp only [List.size_toArray]; rcases Nat.lt_or_ge t vs.length with h' | h'; exact h'; rw [List.getElem?_eq_none h'] at hy; cases hy)]
          simp [hy]
        rw [Option.getD_some]
        show VR w (Forb F B) B x ((vs.toArray ++ Array.replicate (fn.ntmps - vs.toArray.size) undef).getD t undef)
        rw [this]
        exact hxy
    · simp only [Array.size_append, List.size_toArray, Array.size_replicate, hl]
      omega
  split at h <;> try (cases h; done)
  · rename_i s hs
    obtain ⟨xs, hx, e⟩ := Option.map_eq_some_iff.1 h
    cases e
    refine code_ok hC hD (jump_ok hC (dyn := C.dyn f) hD k) c (hU f fn c hu hf hb) _ s .normal w B _ _ hs hS (fun a' w' B' hX hS' hd => ⟨hd, ?_⟩)
    obtain ⟨v, h1, h2⟩ := results_ok hS' hx
    exact ⟨v, h1, v, B', rfl, hX, hS'.hr, hS'.full, h2⟩
  · rename_i s hs
    obtain ⟨xs, hx, e⟩ := Option.map_eq_some_iff.1 h
    cases e
    refine code_ok hC hD (jump_ok hC (dyn := C.dyn f) hD k) c (hU f fn c hu hf hb) _ s .ret w B _ _ hs hS (fun a' w' B' hX hS' hd => ⟨hd, ?_⟩)
    obtain ⟨v, h1, h2⟩ := results_ok hS' hx
    exact ⟨v, h1, v, B', rfl, hX, hS'.hr, hS'.full, h2⟩
def PrimOk (P : Program) (C : Cfg) : Prop := ∀ f p args H r H', C.prim f = some p → p args H = some (r, H') → Enter P f ∧ CallOk P f args H r H'
theorem arun_ok {P : Program} (hN : ∀ (f : FuncId) (fn : Func), P.funcs[f]? = some fn → fn.name ≠ "runtime.NumGoroutine") {C : Cfg} (hP : PrimOk P C) {okd : Array Oper → Bool} (hD : ∀ call, FunOk P call → DrawOk P (pureOf C.mode) (acall C.mode true call) okd) (hU : ∀ (f : FuncId) (fn : Func) (c : Code), C.use f = true → P.funcs[f]? = some fn → fn.body = some c → regs okd (C.dyn f) c = true) : ∀ k, FunOk P (arun P C k)
  | 0 => fun f args H r H' h => by simp only [arun] at h; cases h
  | k + 1 => fun f args H r H' h => by
    have ih := arun_ok hN hP hD hU k
    simp only [arun] at h
    split at h
    · rename_i p hp
      exact hP f p args H r H' hp h
    · exact abody_ok hN (acall_ok ih false) (hD _ ih) hU h
end Go.Proofs.YtigfnhbbfbnicaaA
