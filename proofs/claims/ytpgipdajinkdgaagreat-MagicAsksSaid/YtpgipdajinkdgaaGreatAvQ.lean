/- The abstract evaluator is right: functions. -/
import Derived.Test.YtpgipdajinkdgaaGreatAvM
import Derived.OrdersHeld
namespace Go.Proofs.YtpgipdajinkdgaaGreatA
open Go Go.RowKit
set_option linter.all false
set_option linter.unusedSectionVars false
set_option linter.constructorNameAsVariable false
set_option linter.unusedVariables false
set_option linter.unusedSimpArgs false
section
variable {P : Program} {w : World} {F : Nat → Prop} {B : BM} {n : Nat} {a : Act}
def resOf (tmps : Array Value) : ResultVar → Sem Value
  | .tmp t => pure (tmps.getD t undef)
  | .cell b t => do loadVar t (← asAddr (tmps.getD b undef))
theorem results_eq (fn : Func) (tmps : Array Value) : results fn tmps = (do
    let vs ← fn.results.mapM (resOf tmps)
    pure (if h : vs.size = 1 then vs[0] else .tuple vs)) := rfl
theorem ares_ok {E : Env} {H : List Blk} (hS : SR w F B n E H a) : ∀ {rs : List ResultVar} {xs : List AV}, ares P H E rs = some xs →
    ∃ vs, (rs.mapM (resOf a.tmps)).run P w = .ok vs w ∧ VRL w (Forb F B) B xs vs
  | [], xs, h => by
    simp only [ares, Option.some.injEq] at h
    subst h
    exact ⟨[], rfl, by simp only [VRL]⟩
  | .tmp t :: rs, xs, h => by
    simp only [ares] at h
    obtain ⟨ys, hy, rfl⟩ := Option.map_eq_some_iff.1 h
    obtain ⟨vs, h1, h2⟩ := ares_ok hS hy
    refine ⟨a.tmps.getD t undef :: vs, ?_, by simp only [VRL]; exact ⟨_, _, rfl, hS.env t, h2⟩⟩
    simp only [List.mapM_cons, Sem.run_bind, resOf, Sem.run_pure, Result.andThen_ok, h1]
  | .cell b t :: rs, xs, h => by
    simp only [ares] at h
    split at h <;> try (cases h; done)
    rename_i b' off ver e1
    split at h <;> try (cases h; done)
    rename_i blk hb
    split at h <;> try (cases h; done)
    rename_i x ys hx hy
    cases h
    obtain ⟨vs, h1, h2⟩ := ares_ok hS hy
    have hv := hS.env b
    rw [e1] at hv
    obtain ⟨g, c, hv, _, hbr⟩ := ptr_at hS.hr.weak hv hb
    obtain ⟨us, hus, _, hc⟩ := brel_cells hbr
    obtain ⟨v, hrun, hvr⟩ := rd_load (P := P) hus hc hx
    rw [addr_add, Nat.zero_add] at hrun
    refine ⟨v :: vs, ?_, by simp only [VRL]; exact ⟨_, _, rfl, hvr, h2⟩⟩
    have h3 : (resOf a.tmps (.cell b t)).run P w = .ok v w := by
      simp only [resOf, Sem.run_bind, hv, asAddr, Sem.run_pure, Result.andThen_ok, hrun]
    simp only [List.mapM_cons, Sem.run_bind, h3, Sem.run_pure, Result.andThen_ok, h1]
theorem results_ok {E : Env} {H : List Blk} (hS : SR w F B n E H a) {fn : Func} {xs : List AV} (h : ares P H E fn.results.toList = some xs) : ∃ v, (results fn a.tmps).run P w = .ok v w ∧ VR w (Forb F B) B (aresult xs) v := by
  obtain ⟨vs, h1, h2⟩ := ares_ok hS h
  have e : fn.results = fn.results.toList.toArray := by simp
  refine ⟨if h : vs.toArray.size = 1 then vs.toArray[0] else .tuple vs.toArray, ?_, ?_⟩
  · rw [results_eq, e, List.mapM_toArray]
    simp only [Sem.run_bind, Sem.run_map, h1, Result.andThen_ok, Sem.run_pure]
  · cases xs with
    | nil =>
      simp only [VRL] at h2
      subst h2
      rw [dif_neg (by simp)]
      simp only [aresult, VR]
      exact ⟨#[], rfl, by simp only [VRL]⟩
    | cons x r =>
      cases r with
      | nil =>
        simp only [VRL] at h2
        obtain ⟨v, r, rfl, h2, rfl⟩ := h2
        rw [dif_pos (by simp)]
        exact h2
      | cons y r =>
        have hl := h2.length
        rw [dif_neg (by simp only [List.size_toArray, hl, List.length_cons]; omega)]
        simp only [aresult, VR]
        exact ⟨_, rfl, by simpa using h2⟩
end
theorem abody_ok {P : Program} (hN : ∀ (f : FuncId) (fn : Func), P.funcs[f]? = some fn → fn.name ≠ "runtime.NumGoroutine") {C : Cfg} {call callD : Fun} (hC : FunOk P call) {okd : Array Oper → Bool} (hD : DrawOk P (pureOf C.mode) callD okd) (hU : ∀ (f : FuncId) (fn : Func) (c : Code), C.use f = true → P.funcs[f]? = some fn → fn.body = some c → regs okd (C.dyn f) c = true) {k : Nat} {f : FuncId} {args : List AV} {H H' : List Blk} {r : AV} (h : abody P C call callD k f args H = some (r, H')) :
    Enter P f ∧ CallOk P f args H r H' := by
  unfold abody at h
  split at h <;> try (cases h; done)
  rename_i hu
  split at h <;> try (cases h; done)
  rename_i fn hf
  split at h <;> try (cases h; done)
  rename_i c hb
  refine ⟨⟨fn, hf, hN f fn hf, by rw [hb]; rfl⟩, fun w F B vs hR hF hv => ?_⟩
  refine calls_of_wp hf hb ?_
  have hl := hv.length
  have hS : SR w F B (max fn.ntmps args.length) (zipEnv 0 args) H { tmps := vs.toArray ++ Array.replicate (fn.ntmps - vs.toArray.size) undef, defers := [] } := by
    refine ⟨fun t => ?_, ?_, hR, hF⟩
    · rw [eget_zip, if_pos (Nat.zero_le _), Nat.sub_zero]
      cases hx : args[t]? with
      | none => simp only [Option.getD_none, VR]
      | some x =>
        obtain ⟨y, hy, hxy⟩ := VRL.get hv hx
        have : (vs.toArray ++ Array.replicate (fn.ntmps - vs.toArray.size) undef).getD t undef = y := by
          rw [Array.getD_eq_getD_getElem?, Array.getElem?_append_left (by simp only [List.size_toArray]; rcases Nat.lt_or_ge t vs.length with h' | h'; exact h'; rw [List.getElem?_eq_none h'] at hy; cases hy)]
          simp [hy]
        rw [Option.getD_some]
        show VR w (Forb F B) B x ((vs.toArray ++ Array.replicate (fn.ntmps - vs.toArray.size) undef).getD t undef)
        rw [this]
        exact hxy
    · simp only [Array.size_append, List.size_toArray, Array.size_replicate, hl]
      omega
  split at h <;> try (cases h; done)
  · rename_i s hs
    obtain ⟨xs, hx, e⟩ := Option.map_eq_some_iff.1 h
    cases e
    refine code_ok hC hD (jump_ok hC (dyn := C.dyn f) hD k) c (hU f fn c hu hf hb) _ s .normal w B _ _ hs hS (fun a' w' B' hX hS' hd => ⟨hd, ?_⟩)
    obtain ⟨v, h1, h2⟩ := results_ok hS' hx
    exact ⟨v, h1, v, B', rfl, hX, hS'.hr, hS'.full, h2⟩
  · rename_i s hs
    obtain ⟨xs, hx, e⟩ := Option.map_eq_some_iff.1 h
    cases e
    refine code_ok hC hD (jump_ok hC (dyn := C.dyn f) hD k) c (hU f fn c hu hf hb) _ s .ret w B _ _ hs hS (fun a' w' B' hX hS' hd => ⟨hd, ?_⟩)
    obtain ⟨v, h1, h2⟩ := results_ok hS' hx
    exact ⟨v, h1, v, B', rfl, hX, hS'.hr, hS'.full, h2⟩
def PrimOk (P : Program) (C : Cfg) : Prop := ∀ f p args H r H', C.prim f = some p → p args H = some (r, H') → Enter P f ∧ CallOk P f args H r H'
theorem arun_ok {P : Program} (hN : ∀ (f : FuncId) (fn : Func), P.funcs[f]? = some fn → fn.name ≠ "runtime.NumGoroutine") {C : Cfg} (hP : PrimOk P C) {okd : Array Oper → Bool} (hD : ∀ call, FunOk P call → DrawOk P (pureOf C.mode) (acall C.mode true call) okd) (hU : ∀ (f : FuncId) (fn : Func) (c : Code), C.use f = true → P.funcs[f]? = some fn → fn.body = some c → regs okd (C.dyn f) c = true) : ∀ k, FunOk P (arun P C k)
  | 0 => fun f args H r H' h => by simp only [arun] at h; cases h
  | k + 1 => fun f args H r H' h => by
    have ih := arun_ok hN hP hD hU k
    simp only [arun] at h
    split at h
    · rename_i p hp
      exact hP f p args H r H' hp h
    · exact abody_ok hN (acall_ok ih false) (hD _ ih) hU h
end Go.Proofs.YtpgipdajinkdgaaGreatA

namespace Go.Proofs.YtpgipdajinkdgaaGreatA
open Go Go.RowKit
set_option linter.all false
set_option linter.unusedSectionVars false
set_option linter.constructorNameAsVariable false
set_option linter.unusedVariables false
set_option linter.unusedSimpArgs false
section
variable {P : Program} {H H' : List Blk} {ρ ρ' : Operand → AV} {o : Oper}
theorem nilTest_free {op : BinOp} {t : TypeId} {x y : AV} (h : ((match op with | .eql | .neq => true | _ => false) && refT P t) = false) : nilTest P H op t x y = none := by
  unfold nilTest
  split
  · rename_i hc
    simp only [Bool.and_eq_false_iff] at h
    rcases h with h | h
    · cases op <;> simp_all
    · have hz : ∀ z, nilKind P t z = 0 := by
        intro z
        unfold nilKind
        unfold refT at h
        split
        · split
          · rename_i e; rw [e] at h; cases h
          · rfl
        · split
          · rename_i e; rw [e] at h; cases h
          · rfl
        · split
          · rename_i e; rw [e] at h; cases h
          · rfl
        · rfl
      rw [hz, hz] at hc
      simp at hc
  · rfl
theorem ptrTest_free {op : BinOp} {t : TypeId} {x y : AV} (h : ((match op with | .eql | .neq => true | _ => false) && refT P t) = false) : ptrTest P H op t x y = none := by
  unfold ptrTest
  split <;> try rfl
  split <;> try rfl
  split <;> try rfl
  rename_i hu
  split <;> try rfl
  simp only [refT, hu, Bool.and_true] at h
  cases op <;> first | rfl | (cases h; done)
theorem makeFunc_val {fn : Fn} {first caps : Array Operand} (ho : o.op = .makeFunc fn first caps) {r : Res} (h : aop P H ρ o = some r) : ∃ x, r = .val x := by
  cases fn <;> simp only [aop, ho] at h
  case func f =>
    split at h
    · cases h; exact ⟨_, rfl⟩
    · cases h
  all_goals
    obtain ⟨y, _, rfl⟩ := Option.map_eq_some_iff.1 h
    exact ⟨y, rfl⟩
theorem aop_free (h : touchS P o.op = false) : aop P H ρ o = aop P H' ρ o := by
  cases ho : o.op <;> rw [ho] at h <;> simp only [touchS] at h <;> (try (cases h; done))
  case makeFunc fn x y => cases fn <;> simp only [aop, ho]
  case binOp op t x y yt => simp only [aop, ho]; rw [nilTest_free h, nilTest_free h, ptrTest_free h, ptrTest_free h]
  case convert src dst x =>
    simp only [aop, ho]
    simp only [Bool.or_eq_false_iff, refT] at h
    cases hx : ρ x <;> try rfl
    rename_i b off ver
    have key : ∀ HH : List Blk, (match P.underlying src, P.underlying dst, blkAt HH b ver with
      | some (.pointer t), some .unsafePointer, some blk => (match szOf P t with
        | some (_ + 1) => if off < blk.cells.length then some (Res.val (.ptr b off ver)) else none
        | _ => none)
      | some .unsafePointer, some (.pointer u), some blk =>
        if !blk.grow && (P.info? u).isSome && liesAt P P.depth blk.elem (blk.cells.length / P.cellsOf blk.elem) off u 1 then some (.val (.ptr b off ver)) else none
      | _, _, _ => none) = none := by
      intro HH
      split
      · rename_i hu _ _; rw [hu] at h; cases h.1
      · rename_i hu _ _; rw [hu] at h; cases h.1
      · rfl
    exact (key H).trans (key H').symm
  case call c =>
    simp only [aop, ho]
    cases hc : c.callee with
    | builtin b =>
      cases b <;> first | rfl | (simp [hc] at h; done) | skip
      simp only [hc] at h
      dsimp only
      split <;> try rfl
      rename_i x t hx ht
      rw [ht] at h
      simp only [mapT] at h
      split <;> try rfl
      split <;> try rfl
      rename_i hu
      rw [hu] at h
      cases h
    | value f => simp [hc] at h
    | invoke r m => simp [hc] at h
  all_goals simp only [aop, ho]
theorem ali3_new {t : TypeId} {b o1 len sz ver : Nat} {m : Option Int} {hi : Option AV} {lo : Bool} {r : Res} (h : ali3 P H t b o1 len sz ver m hi lo = some r) : ∃ x blk, r = .new x blk := by
  unfold ali3 at h
  split at h <;> try (cases h; done)
  split at h <;> try (cases h; done)
  split at h <;> try (cases h; done)
  cases h
  exact ⟨_, _, rfl⟩
theorem aop_quiet {pure_ : FuncId → Bool} (h : modS pure_ o.op = false) {x : AV} {i : Nat} {b : Blk} : aop P H ρ o ≠ some (.upd x i b) := by
  intro hr
  have fin : ∀ u : Option AV, u.map Res.val ≠ some (.upd x i b) := by intro u; cases u <;> simp
  cases ho : o.op <;> rw [ho] at h <;> simp only [modS] at h <;> (try (cases h; done))
  case makeFunc fn x y => obtain ⟨_, e⟩ := makeFunc_val ho hr; cases e
  case call c =>
    simp only [aop, ho] at hr
    cases hc : c.callee with
    | builtin b =>
      rw [hc] at h hr
      cases b <;> simp only at h hr <;> first | (cases h; done) | (exact fin _ hr) | skip
      repeat' split at hr
      all_goals first | (exact fin _ hr) | (cases hr; done) | (obtain ⟨_, _, e⟩ := Option.map_eq_some_iff.1 hr; cases e; done)
    | value f => rw [hc] at hr; cases hr
    | invoke r m => rw [hc] at hr; cases hr
  all_goals
    simp only [aop, ho] at hr
    first
    | (exact fin _ hr)
    | (repeat' split at hr
       all_goals first | (exact fin _ hr) | (cases hr; done) | (obtain ⟨_, _, e⟩ := ali3_new hr; cases e; done) | (simp at hr; done))
theorem aop_val (h : touchS P o.op = false) {r : Res} (hr : aop P H ρ o = some r) : ∃ x, r = .val x := by
  have fin : ∀ u : Option AV, u.map Res.val = some r → ∃ x, r = .val x := by intro u hz; obtain ⟨y, _, rfl⟩ := Option.map_eq_some_iff.1 hz; exact ⟨y, rfl⟩
  cases ho : o.op <;> rw [ho] at h <;> simp only [touchS] at h <;> (try (cases h; done))
  case makeFunc fn x y => exact makeFunc_val ho hr
  case call c =>
    simp only [aop, ho] at hr
    cases hc : c.callee with
    | builtin b =>
      rw [hc] at h hr
      cases b <;> simp only at h hr <;> first | (cases h; done) | (exact fin _ hr) | skip
      repeat' split at hr
      all_goals first | (exact fin _ hr) | (cases hr; exact ⟨_, rfl⟩) | (cases hr; done) | (obtain ⟨_, _, rfl⟩ := Option.map_eq_some_iff.1 hr; exact ⟨_, rfl⟩)
    | value f => rw [hc] at hr; cases hr
    | invoke r m => rw [hc] at hr; cases hr
  all_goals
    simp only [aop, ho] at hr
    first
    | (exact fin _ hr)
    | (repeat' split at hr
       all_goals first | (exact fin _ hr) | (cases hr; exact ⟨_, rfl⟩) | (cases hr; done) | (obtain ⟨_, _, rfl⟩ := Option.map_eq_some_iff.1 hr; exact ⟨_, rfl⟩))
theorem aop_new {x : AV} {b : Blk} (hr : aop P H ρ o = some (.new x b)) : touchS P o.op = true := by
  cases h : touchS P o.op with
  | true => rfl
  | false => obtain ⟨_, e⟩ := aop_val h hr; cases e
theorem aop_freeV (h : touchV ρ o.op = false) {x : AV} (hr : aop P H ρ o = some (.val x)) : aop P H' ρ o = some (.val x) := by
  have hs : ∀ u : AV, byVal u = true → (∃ a b, u = .lst a b) ∨ (∃ a, u = .ro a) ∨ (∃ a, u = .sc a) ∨ u = .z := by
    intro u hu
    cases u <;> simp only [byVal] at hu <;> (try (cases hu; done)) <;> simp
  cases ho : o.op <;> rw [ho] at h <;> simp only [touchV] at h <;> (try (cases h; done))
  case makeFunc fn x y => cases fn <;> simp only [aop, ho] at hr ⊢ <;> exact hr
  case load t y =>
    simp only [aop, ho] at hr ⊢
    rcases hs (ρ y) (by simpa using h) with ⟨a, b, e⟩ | ⟨a, e⟩ | ⟨a, e⟩ | e <;> rw [e] at hr ⊢ <;> exact hr
  case slice t y lo hi mx =>
    simp only [aop, ho] at hr ⊢
    rcases hs (ρ y) (by simpa using h) with ⟨a, b, e⟩ | ⟨a, e⟩ | ⟨a, e⟩ | e <;> rw [e] at hr ⊢ <;> exact hr
  case fieldAddr t y f =>
    simp only [aop, ho] at hr ⊢
    rcases hs (ρ y) (by simpa using h) with ⟨a, b, e⟩ | ⟨a, e⟩ | ⟨a, e⟩ | e <;> rw [e] at hr ⊢ <;> (repeat' split at hr) <;> first | (cases hr; done) | (simp_all; done) | (simp_all; omega)
  case indexAddr t y i =>
    simp only [aop, ho] at hr ⊢
    rcases hs (ρ y) (by simpa using h) with ⟨a, b, e⟩ | ⟨a, e⟩ | ⟨a, e⟩ | e <;> rw [e] at hr ⊢ <;> (repeat' split at hr) <;> first | (cases hr; done) | (simp_all; done) | (simp_all; omega)
  case binOp op t y z yt =>
    simp only [aop, ho] at hr ⊢
    simp only [Bool.not_eq_false', Bool.and_eq_true] at h
    have hk : ∀ u : AV, (toV u).isSome = true → some_ H u = some_ H' u := by
      intro u hu
      cases u <;> simp only [toV, Option.isSome_none] at hu <;> first | rfl | (cases hu; done)
    have : nilTest P H op t (ρ y) (ρ z) = nilTest P H' op t (ρ y) (ρ z) := by
      unfold nilTest
      rw [hk _ h.1, hk _ h.2]
    have hp : ∀ HH, ptrTest P HH op t (ρ y) (ρ z) = none := by
      intro HH
      cases hy : ρ y <;> first | rfl | skip
      rw [hy] at h
      cases h.1
    rw [hp] at hr
    rw [← this, hp]
    exact hr
  case convert src dst y =>
    simp only [aop, ho] at hr ⊢
    cases hy : ρ y <;> rw [hy] at h hr <;> first | (exact hr) | (cases h; done)
  case call c =>
    simp only [aop, ho] at hr ⊢
    cases hc : c.callee with
    | builtin b =>
      rw [hc] at h hr
      cases b <;> simp only at h hr ⊢ <;> first | (cases h; done) | (exact hr) | skip
      case len =>
        split at h
        · rename_i y hy
          have e0 : c.args[0]? = some y := by rw [← Array.getElem?_toList, hy]; rfl
          rw [e0] at hr ⊢
          cases ht : c.argTypes[0]? with
          | none => rw [ht] at hr; cases hr
          | some t =>
            rw [ht] at hr
            dsimp only at hr ⊢
            cases hv : ρ y <;> rw [hv] at h hr <;> first | (cases h; done) | (exact hr)
        · cases h
      case append =>
        split at hr <;> try (cases hr; done)
        rename_i s y t u e1 e2
        rw [e1] at h
        simp only [Bool.not_eq_false', Bool.and_eq_true] at h
        split at hr
        case isFalse =>
          exfalso
          unfold aappend2 at hr
          repeat' split at hr
          all_goals (cases hr; done)
        rename_i htu
        rw [if_pos htu]
        have he : ∀ k, elems H (ρ y) k = elems H' (ρ y) k := by
          intro k
          rcases hs (ρ y) h.2 with ⟨a, b, e⟩ | ⟨a, e⟩ | ⟨a, e⟩ | e <;> rw [e] <;> (try rfl)
          cases a <;> (try rfl)
          rename_i A n c
          cases n <;> rfl
        unfold aappend at hr ⊢
        split at hr <;> try (cases hr; done)
        split at hr <;> try (cases hr; done)
        split at hr <;> try (cases hr; done)
        split at hr <;> try (cases hr; done)
        rename_i hcond
        rw [if_pos hcond, ← he]
        split at hr <;> try (cases hr; done)
        split at hr <;> try (cases hr; done)
        rename_i hone
        rw [if_pos hone]
        rcases hs (ρ s) h.1 with ⟨a, b, e⟩ | ⟨a, e⟩ | ⟨a, e⟩ | e
        · rw [e] at hr; cases hr
        · rw [e] at hr; cases hr
        · rw [e] at hr ⊢
          split at hr <;> try (cases hr; done)
          · simp_all
          · split at hr <;> try (cases hr; done)
            rename_i hb
            rw [if_pos hb]
            split at hr
            · rename_i h0
              rw [if_pos h0]
              exact hr
            · cases hr
          · simp_all
        · rw [e] at hr ⊢
          simp only at hr ⊢
          split at hr <;> try (cases hr; done)
          rename_i hb
          rw [if_pos hb]
          split at hr
          · rename_i h0
            rw [if_pos h0]
            exact hr
          · cases hr
    | value f => rw [hc] at hr; cases hr
    | invoke r m => rw [hc] at hr; cases hr
  all_goals (simp only [aop, ho] at hr ⊢; exact hr)
end
end Go.Proofs.YtpgipdajinkdgaaGreatA

namespace Go.Proofs.YtpgipdajinkdgaaGreatA
open Go Go.RowKit
set_option linter.all false
set_option linter.unusedSectionVars false
set_option linter.constructorNameAsVariable false
set_option linter.unusedVariables false
set_option linter.unusedSimpArgs false
section
variable {P : Program} {H : List Blk} {ρ ρ' : Operand → AV} {o : Oper}
theorem sop_congr (h : ∀ x ∈ o.op.operands, ρ x = ρ' x) : sop P ρ o = sop P ρ' o := by
  unfold sop
  have h1 : (o.op.operands.all fun x => (toV (ρ x)).isSome) = (o.op.operands.all fun x => (toV (ρ' x)).isSome) := by
    rw [Bool.eq_iff_iff, Array.all_eq_true', Array.all_eq_true']
    exact ⟨fun k x hx => by rw [← h x hx]; exact k x hx, fun k x hx => by rw [h x hx]; exact k x hx⟩
  rw [h1]
  cases hs : isSel o.op with
  | true => simp
  | false =>
    have h2 : execOp (fun x => (toV (ρ x)).getD undef) o = execOp (fun x => (toV (ρ' x)).getD undef) o :=
      execOp_congr o (fun cs b e => by rw [e] at hs; simp [isSel] at hs) (fun x hx => by rw [h x hx])
    rw [h2]
theorem parts_congr {parts : Array (Nat × Operand)} (h : ∀ x ∈ (parts.toList.map (·.2)).toArray, ρ x = ρ' x) : (parts.toList.map fun (x : Nat × Operand) => (x.1, ρ x.2)) = parts.toList.map fun (x : Nat × Operand) => (x.1, ρ' x.2) := by
  refine List.map_congr_left fun p hp => ?_
  rw [h p.2 (by simp only [List.mem_toArray, List.mem_map]; exact ⟨p, hp, rfl⟩)]
theorem opt_congr {x : Option Operand} (h : ∀ y ∈ x.toArray, ρ y = ρ' y) : x.map ρ = x.map ρ' := by
  cases x with
  | none => rfl
  | some y => simp only [Option.map_some]; rw [h y (by simp)]
theorem callee_congr {c : Call} (h : ∀ x ∈ c.operands, ρ x = ρ' x) : callee ρ c = callee ρ' c := by
  unfold callee
  cases hc : c.callee with
  | value f =>
    have hf : ρ f = ρ' f := h f (by simp [Call.operands, hc])
    have ha : c.args.toList.map ρ = c.args.toList.map ρ' := List.map_congr_left fun x hx => h x (by simp [Call.operands, hc]; exact .inr (by simpa using hx))
    simp only [hf, ha]
  | invoke r m => rfl
  | builtin b => rfl
theorem aop_congr (h : ∀ x ∈ o.op.operands, ρ x = ρ' x) : aop P H ρ o = aop P H ρ' o := by
  have hs := sop_congr (P := P) h
  cases ho : o.op <;> rw [ho] at h <;> simp only [Op.operands] at h
  case makeFunc fn first caps =>
    cases fn <;> simp only [aop, ho, hs]
    have : caps.toList.map ρ = caps.toList.map ρ' := List.map_congr_left fun x hx => h x (by simp; exact .inr (by simpa using hx))
    rw [this]
  case build t parts => simp only [aop, ho]; rw [parts_congr h]
  case buildSlice t n parts => simp only [aop, ho]; rw [parts_congr h]
  case slice t x lo hi mx =>
    have hx := h x (by simp)
    have h1 : lo.map ρ = lo.map ρ' := opt_congr fun y hy => h y (by simp at hy ⊢; simp [hy])
    have h2 : hi.map ρ = hi.map ρ' := opt_congr fun y hy => h y (by simp at hy ⊢; simp [hy])
    have h3 : ∀ m, mx = some m → ρ m = ρ' m := fun m hm => h m (by subst hm; simp)
    simp only [aop, ho, hs, hx, h1, h2]
    cases mx with
    | none => rfl
    | some m => simp only [h3 m rfl]
  case makeMap t q =>
    cases q with
    | none => simp only [aop, ho]
    | some y => simp only [aop, ho, h y (by simp)]
  case call c =>
    have ha : ∀ x ∈ c.args, ρ x = ρ' x := fun x hx => h x (by simp only [Call.operands, Array.mem_append]; exact .inr hx)
    simp only [aop, ho]
    cases hc : c.callee with
    | value f => rfl
    | invoke r m => rfl
    | builtin b =>
      cases b <;> try simp only [hs]
      case len =>
        cases h0 : c.args[0]? with
        | none => rfl
        | some x =>
          cases h1 : c.argTypes[0]? with
          | none => rfl
          | some t => simp only [ha x (Array.mem_of_getElem? h0)]
      case unsafeSliceData =>
        split
        · rename_i x e1
          rw [ha x (by rw [← Array.mem_toList_iff, e1]; simp)]
        · rfl
      case unsafeString =>
        split
        · rename_i s x t u e1 e2
          rw [ha s (by rw [← Array.mem_toList_iff, e1]; simp), ha x (by rw [← Array.mem_toList_iff, e1]; simp)]
        · rfl
      case append =>
        split
        · rename_i s x t u e1 e2
          rw [ha s (by rw [← Array.mem_toList_iff, e1]; simp), ha x (by rw [← Array.mem_toList_iff, e1]; simp)]
        · rfl
      case clear =>
        split
        · rename_i x t e1 e2
          rw [ha x (by rw [← Array.mem_toList_iff, e1]; simp)]
        · rfl
      case copy =>
        split
        · rename_i s x t u e1 e2
          rw [ha s (by rw [← Array.mem_toList_iff, e1]; simp), ha x (by rw [← Array.mem_toList_iff, e1]; simp)]
        · rfl
  all_goals first
    | (simp only [aop, ho, hs]; done)
    | (simp only [aop, ho, hs]; simp_all; done)
end
end Go.Proofs.YtpgipdajinkdgaaGreatA

namespace Go.Proofs.YtpgipdajinkdgaaGreatA
open Go Go.RowKit
set_option linter.all false
set_option linter.unusedSectionVars false
set_option linter.constructorNameAsVariable false
set_option linter.unusedVariables false
set_option linter.unusedSimpArgs false
def okDraw (P : Program) (pure_ : FuncId → Bool) (ops : Array Oper) : Bool :=
  pairsOk ops fun i => match ops[i]? with
    | some o => (touchS P o.op, modS pure_ o.op)
    | none => (false, false)
theorem mask_bit (T : List Nat) (i : Nat) : ∀ (l : List Nat), (l.foldr (fun e m => (2 ^ e ||| (T[e]?).getD 0) ||| m) 0).testBit i = true → ∃ e ∈ l, i = e ∨ anc T i e = true
  | [], h => by simp at h
  | e :: l, h => by
    simp only [List.foldr_cons, Nat.testBit_or, Bool.or_eq_true] at h
    rcases h with (h | h) | h
    · rw [Nat.testBit_two_pow] at h
      exact ⟨e, by simp, .inl (by simpa using (of_decide_eq_true h).symm)⟩
    · exact ⟨e, by simp, .inr h⟩
    · obtain ⟨e', he, h⟩ := mask_bit T i l h
      exact ⟨e', by simp [he], h⟩
section
variable {P : Program} {pure_ : FuncId → Bool} {ops : Array Oper} {T : List Nat}
theorem tab_at (hT : tabOk T ops = true) {j : Nat} {o : Oper} (ho : ops[j]? = some o) : (T[j]?).getD 0 = ancMask T o ∧ ∀ e ∈ edgesOf o, e < j := by
  have hj : j < ops.size := by rcases Nat.lt_or_ge j ops.size with h' | h'; exact h'; rw [Array.getElem?_eq_none h'] at ho; cases ho
  unfold tabOk at hT
  have := List.all_eq_true.1 hT j (by simpa using hj)
  rw [ho] at this
  simp only [Bool.and_eq_true, beq_iff_eq, List.all_eq_true, decide_eq_true_eq] at this
  exact this
theorem anc_in (hT : tabOk T ops = true) {D : Nat → Bool} (hD : ∀ j o, ops[j]? = some o → D j = true → ∀ e ∈ edgesOf o, D e = true) : ∀ (j i : Nat) (o : Oper), ops[j]? = some o → (∀ e ∈ edgesOf o, D e = true) → anc T i j = true → D i = true := by
  intro j
  induction j using Nat.strongRecOn with
  | _ j ih =>
    intro i o ho he ha
    obtain ⟨h1, h2⟩ := tab_at hT ho
    unfold anc at ha
    rw [h1] at ha
    obtain ⟨e, hm, h⟩ := mask_bit T i (edgesOf o) ha
    rcases h with rfl | h
    · exact he _ hm
    · have hlt := h2 e hm
      cases hoe : ops[e]? with
      | none =>
        have hj : j < ops.size := by rcases Nat.lt_or_ge j ops.size with h' | h'; exact h'; rw [Array.getElem?_eq_none h'] at ho; cases ho
        rw [Array.getElem?_eq_getElem (by omega)] at hoe
        cases hoe
      | some oe => exact ih e hlt i oe hoe (hD e oe hoe (he e hm)) h
def edv (ops : Array Oper) (E0 : Env) (xs : Nat → AV) (D : Nat → Bool) : Nat → Nat → AV
  | 0, t => eget E0 t
  | i + 1, t => if D i = true ∧ (ops[i]?).bind (·.dst) = some t then xs i else edv ops E0 xs D i t
theorem eget_dput {n : Nat} {E E' : Env} {dst : Option Tmp} {x : AV} (h : dput n E dst x = some E') (t : Nat) : eget E' t = if dst = some t then x else eget E t := by
  cases dst with
  | none => simp only [dput, Option.some.injEq] at h; subst h; simp
  | some d =>
    simp only [dput] at h
    split at h <;> try (cases h; done)
    cases h
    rw [eget_eput]
    by_cases e : t = d
    · subst e; simp
    · rw [if_neg e, if_neg (by intro h; injection h with h; exact e h.symm)]
theorem put_rel {w : World} {Fb : Nat → Prop} {B : BM} {n : Nat} {E E' : Env} {a : Act} {dst : Option Tmp} {x : AV} {v : Value} {g : Nat → AV} (h : dput n E dst x = some E') (hg : ∀ t, VR w Fb B (g t) (a.tmps.getD t undef)) (hs : a.tmps.size = n) (hv : VR w Fb B x v) :
    (∀ t, VR w Fb B (if dst = some t then x else g t) ((a.put dst v).tmps.getD t undef)) ∧ (a.put dst v).tmps.size = n ∧ (a.put dst v).defers = a.defers := by
  cases dst with
  | none => exact ⟨fun t => by rw [if_neg (by simp)]; exact hg t, hs, rfl⟩
  | some d =>
    simp only [dput] at h
    split at h <;> try (cases h; done)
    rename_i hd
    have hd' : d < a.tmps.size := by rw [hs]; exact hd
    refine ⟨fun t => ?_, by simp [Act.put, hs], rfl⟩
    rw [Act.put_get hd']
    by_cases e : t = d
    · subst e; rw [if_pos rfl, if_pos rfl]; exact hv
    · rw [if_neg e, if_neg (by intro h; injection h with h; exact e h.symm)]; exact hg t
end
theorem val_quiet {P : Program} {mode : FuncId → Nat} {call0 : Fun} (hC : FunOk P call0) {H H' : List Blk} {E : Env} {o : Oper} {x : AV} (hq : modS (pureOf mode) o.op = false) (h : acallH P (acall mode true call0) H (aeval E) o = some (x, H')) :
    H' = H ∨ ∃ b, H' = H ++ [b] ∧ touchS P o.op = true := by
  have plain : aopH P H (aeval E) o = some (x, H') → H' = H ∨ ∃ b, H' = H ++ [b] ∧ touchS P o.op = true := by
    intro h
    unfold aopH at h
    split at h <;> try (cases h; done)
    · cases h; exact .inl rfl
    · rename_i y b hr; cases h; exact .inr ⟨b, rfl, aop_new hr⟩
    · rename_i y i b hr; exact absurd hr (aop_quiet hq)
  unfold acallH at h
  split at h
  · rename_i c ho
    split at h
    · rename_i f args hcal
      rw [ho] at hq
      unfold callee at hcal
      split at hcal <;> try (cases hcal; done)
      rename_i y hy
      simp only [modS, hy] at hq
      split at hq <;> try (cases hq; done)
      · rename_i g e
        injection e with e
        subst e
        simp only [aeval] at hcal
        cases hcal
        have hp : pureOf mode f = true := by simpa using hq
        split at h
        · rename_i r hr
          cases h
          exact .inl (acall_pure hC hp hr).1
        · obtain ⟨_, _, e⟩ := Option.map_eq_some_iff.1 h
          cases e
          exact .inl rfl
      all_goals simp_all
    · exact plain h
  · exact plain h
section draw
variable {P : Program} {mode : FuncId → Nat} {call0 : Fun} {n N : Nat} {ops : Array Oper} {T : List Nat} {bits : Nat → Bool × Bool} {st : Nat → St} {xs : Nat → AV} {F : Nat → Prop} {rv : Nat → Option (Nat × Blk)} {w0 : World} {B0 : BM} {d0 : List Deferred} {Q : Exit → Act → World → Prop}
structure Run (P : Program) (mode : FuncId → Nat) (call0 : Fun) (n N : Nat) (ops : Array Oper) (T : List Nat) (bits : Nat → Bool × Bool) (st : Nat → St) (xs : Nat → AV) (rv : Nat → Option (Nat × Blk)) : Prop where
  size : ops.size = N
  tab : tabOk T ops = true
  pair : ∀ i j x y, i < j → ops[i]? = some x → ops[j]? = some y → anc T i j = true ∨ (x.apart ops y = true ∧ ((bits i).2 = true → (bits j).1 = false) ∧ ((bits i).1 = true → (bits j).2 = false))
  val : ∀ i o, ops[i]? = some o → rv i = none → aval P (acall mode true call0) ops o (st i) = some (xs i, (st (i + 1)).heap)
  env : ∀ i o, ops[i]? = some o → dput n (st i).env o.dst (xs i) = some (st (i + 1)).env
  mt : ∀ i, (bits i).2 = true → (bits i).1 = true
  heap : ∀ i o, ops[i]? = some o → (bits i).2 = false → (st (i + 1)).heap = (st i).heap ∨ ∃ b, (st (i + 1)).heap = (st i).heap ++ [b] ∧ (bits i).1 = true
  quiet : ∀ i o, ops[i]? = some o → rv i = none → (bits i).2 = false → awanted ops (st i).env o = some true → (∀ c f args, o.op = .call c → callee (aeval (st i).env) c = some (f, args) → pureOf mode f = true ∧ (bits i).1 = true) ∧
    (∀ x j b, aop P (st i).heap (aeval (st i).env) o ≠ some (.upd x j b)) ∧ (∀ x b, aop P (st i).heap (aeval (st i).env) o = some (.new x b) → (bits i).1 = true)
  free : ∀ i o, ops[i]? = some o → rv i = none → (bits i).1 = false → awanted ops (st i).env o = some true → ∀ x, aop P (st i).heap (aeval (st i).env) o = some (.val x) → ∀ H', aop P H' (aeval (st i).env) o = some (.val x)
  rsv : ∀ i e, rv i = some e → ∃ o t, ops[i]? = some o ∧ o.op = .alloc t ∧ o.guard = none ∧ xs i = .ptr e.1 0 0 ∧ (st (i + 1)).heap = (st i).heap ∧ bits i = (false, false) ∧ ∀ (H : List Blk) (ρ : Operand → AV), H.length = e.1 → aop P H ρ o = some (.new (.ptr e.1 0 0) e.2)
  rinj : ∀ i j b x y, rv i = some (b, x) → rv j = some (b, y) → i = j
  rlt : ∀ i b x, rv i = some (b, x) → ∀ k, k ≤ N → b < (st k).heap.length
  rcall : ∀ k e, rv k = some e → ∀ i o c, ops[i]? = some o → (bits i).2 = true → o.op = .call c → ∃ b, c.callee = .builtin b
structure Inv (n N : Nat) (ops : Array Oper) (bits : Nat → Bool × Bool) (st : Nat → St) (xs : Nat → AV) (rv : Nat → Option (Nat × Blk)) (F : Nat → Prop) (D : Nat → Bool) (p q : Nat) (w : World) (B : BM) (a : Act) : Prop where
  clos : ∀ j o, ops[j]? = some o → D j = true → ∀ e ∈ edgesOf o, D e = true
  env : ∀ t, VR w (Forb F B) B (edv ops (st 0).env xs D N t) (a.tmps.getD t undef)
  size : a.tmps.size = n
  hr : HR w F B (st q).heap
  pq : p ≤ q
  qN : q ≤ N
  seg : ∀ k, p ≤ k → k < q → (bits k).2 = false
  mods : ∀ k, k < N → (bits k).2 = true → (D k = true ↔ k < p)
  top : q = N ∨ (q < N ∧ (bits q).2 = true)
  bot : p = 0 ∨ (p - 1 < N ∧ (bits (p - 1)).2 = true)
  full : ∀ b, b < (st p).heap.length → (∃ e, B b = some e) ∨ ∃ k x, rv k = some (b, x) ∧ D k = false
  new : ∀ k, p ≤ k → k < q → ∀ b, (st k).heap.length ≤ b → b < (st (k + 1)).heap.length → (D k = true → ∃ e, B b = some e) ∧ (D k = false → B b = none)
  rsv : ∀ k b x, rv k = some (b, x) → D k = false → B b = none ∧ (st q).heap[b]? = some x
variable (R : Run P mode call0 n N ops T bits st xs rv)
include R
theorem at_lt {i : Nat} {o : Oper} (h : ops[i]? = some o) : i < N := by
  rw [← R.size]
  rcases Nat.lt_or_ge i ops.size with h' | h'
  · exact h'
  · rw [Array.getElem?_eq_none h'] at h; cases h
theorem at_ex {i : Nat} (h : i < N) : ∃ o, ops[i]? = some o := by
  rw [← R.size] at h
  exact ⟨_, Array.getElem?_eq_getElem h⟩
omit R in
theorem next_ex : ∀ (m p : Nat), p + m = N → ∃ q, p ≤ q ∧ q ≤ N ∧ (∀ k, p ≤ k → k < q → (bits k).2 = false) ∧ (q = N ∨ (q < N ∧ (bits q).2 = true))
  | 0, p, h => ⟨N, by omega, Nat.le_refl _, fun k h1 h2 => by omega, .inl rfl⟩
  | m + 1, p, h => by
    cases hm : (bits p).2 with
    | true => exact ⟨p, Nat.le_refl _, by omega, fun k h1 h2 => by omega, .inr ⟨by omega, hm⟩⟩
    | false =>
      obtain ⟨q, h1, h2, h3, h4⟩ := next_ex m (p + 1) (by omega)
      refine ⟨q, by omega, h2, fun k hk1 hk2 => ?_, h4⟩
      by_cases e : k = p
      · subst e; exact hm
      · exact h3 k (by omega) hk2
theorem heap_pre {p q : Nat} (hs : ∀ k, p ≤ k → k < q → (bits k).2 = false) (hq : q ≤ N) : ∀ (m i : Nat), p ≤ i → i + m ≤ q → ∃ l, (st (i + m)).heap = (st i).heap ++ l
  | 0, i, _, _ => ⟨[], by simp⟩
  | m + 1, i, h1, h2 => by
    obtain ⟨l, hl⟩ := heap_pre hs hq m i h1 (by omega)
    obtain ⟨o, ho⟩ := at_ex R (i := i + m) (by omega)
    rcases R.heap (i + m) o ho (hs (i + m) (by omega) (by omega)) with e | ⟨b, e, _⟩
    · exact ⟨l, by rw [← Nat.add_assoc, e, hl]⟩
    · exact ⟨l ++ [b], by rw [← Nat.add_assoc, e, hl, List.append_assoc]⟩
end draw
end Go.Proofs.YtpgipdajinkdgaaGreatA
