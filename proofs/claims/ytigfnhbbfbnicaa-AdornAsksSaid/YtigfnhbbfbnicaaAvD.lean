/- A part of the proof of AdornAsks: functions of the program, run by the evaluator. -/

/- The abstract evaluator is right: operations that yield a value and change nothing. -/
import Derived.Test.YtigfnhbbfbnicaaAvC
namespace Go.Proofs.YtigfnhbbfbnicaaA
open Go Go.RowKit
set_option linter.all false
set_option linter.unusedSectionVars false
set_option linter.constructorNameAsVariable false
set_option linter.unusedVariables false
set_option linter.unusedSimpArgs false
theorem acells_solid {w : World} {Fb : Nat → Prop} {B : BM} {x : AV} {v : Value} (h : VR w Fb B x v) (hs : solid x = true) : VRL w Fb B (acells x) v.cells.toList := by
  have key : ∀ u : AV, one u = true → VR w Fb B u v → v.oneCell' = true := by
    intro u hu hv
    cases u <;> simp only [one, Bool.false_eq_true] at hu <;> simp only [VR] at hv
    case sc u => rw [hv]; exact hu
    case lst => obtain ⟨_, _, _, rfl, _⟩ := hv; rfl
    case ro => obtain ⟨_, _, rfl, _⟩ := hv; rfl
    case own => obtain ⟨_, _, _, _, _, rfl, _⟩ := hv; rfl
    case ptr => obtain ⟨_, _, _, _, rfl, _⟩ := hv; rfl
    case fn => obtain ⟨_, rfl, _⟩ := hv; rfl
    case ifc => obtain ⟨_, rfl, _⟩ := hv; rfl
    case z => obtain ⟨_, rfl⟩ := hv; rfl
    case mp => obtain ⟨_, _, _, _, rfl, _⟩ := hv; rfl
  have single : ∀ u : AV, one u = true → VR w Fb B u v → VRL w Fb B [u] v.cells.toList := by
    intro u hu hv
    have := key u hu hv
    have hc : v.cells = #[v] := by cases v <;> simp_all [Value.oneCell', Value.cells]
    rw [hc]
    simp only [VRL]
    exact ⟨v, [], rfl, hv, rfl⟩
  cases x with
  | agg cs =>
    simp only [VR] at h
    obtain ⟨c, rfl, h⟩ := h
    exact h
  | bad => simp [solid, one] at hs
  | tup _ => simp [solid, one] at hs
  | sc u => exact single _ hs h
  | lst a b => exact single _ hs h
  | ro a => exact single _ hs h
  | own a b c d e => exact single _ hs h
  | ptr a b c => exact single _ hs h
  | fn a b => exact single _ hs h
  | ifc a b => exact single _ hs h
  | z => exact single _ hs h
  | mp a b => exact single _ hs h
theorem one_cell {w : World} {Fb : Nat → Prop} {B : BM} : ∀ {xs : List AV} {ys : List Value}, VRL w Fb B xs ys → xs.all one = true → ∀ y ∈ ys, y.oneCell' = true
  | [], ys, h, _, y, hy => by simp only [VRL] at h; subst h; cases hy
  | x :: xs, ys, h, ho, y, hy => by
    simp only [VRL] at h
    obtain ⟨v, r, rfl, h1, h2⟩ := h
    simp only [List.all_cons, Bool.and_eq_true] at ho
    rcases List.mem_cons.1 hy with rfl | hy
    · cases x <;> simp only [one, Bool.false_eq_true, false_and] at ho <;> simp only [VR] at h1
      case sc u => rw [h1]; exact ho.1
      case lst => obtain ⟨_, _, _, rfl, _⟩ := h1; rfl
      case ro => obtain ⟨_, _, rfl, _⟩ := h1; rfl
      case own => obtain ⟨_, _, _, _, _, rfl, _⟩ := h1; rfl
      case ptr => obtain ⟨_, _, _, _, rfl, _⟩ := h1; rfl
      case fn => obtain ⟨_, rfl, _⟩ := h1; rfl
      case ifc => obtain ⟨_, rfl, _⟩ := h1; rfl
      case z => obtain ⟨_, rfl⟩ := h1; rfl
      case mp => obtain ⟨_, _, _, _, rfl, _⟩ := h1; rfl
    · exact one_cell h2 ho.2 y hy
theorem setAll (off : Nat) : ∀ (vs : List Value) (k : Nat) (c : Array Value), off + k + vs.length ≤ c.size →
    ((vs.zipIdx k).foldl (fun cs (x : Value × Nat) => cs.setIfInBounds (off + x.2) x.1) c).toList = c.toList.take (off + k) ++ vs ++ c.toList.drop (off + k + vs.length)
  | [], k, c, _ => by simp
  | v :: vs, k, c, h => by
    simp only [List.length_cons] at h
    simp only [List.zipIdx_cons, List.foldl_cons]
    rw [setAll off vs (k + 1) _ (by simp; omega)]
    have hs : (c.setIfInBounds (off + k) v).toList = c.toList.set (off + k) v := by simp
    rw [hs]
    have hl : off + k < c.toList.length := by rw [Array.length_toList]; omega
    rw [List.take_set, List.drop_set_of_lt (by omega)]
    have h1 : (c.toList.take (off + (k + 1))).set (off + k) v = c.toList.take (off + k) ++ [v] := by
      rw [show off + (k + 1) = off + k + 1 by omega, List.take_succ_eq_append_getElem hl, List.set_append_right _ _ (by simp; omega)]
      rw [List.length_take, Nat.min_eq_left (Nat.le_of_lt hl), Nat.sub_self]
      rfl
    rw [h1, show off + (k + 1) + vs.length = off + k + (v :: vs).length by simp only [List.length_cons]; omega]
    simp only [List.append_assoc, List.singleton_append, List.cons_append, List.nil_append]
section
variable {P : Program} {w : World} {F : Nat → Prop} {B : BM} {H : List Blk} {a : Act} {ρ : Operand → AV}
def VRP (w : World) (Fb : Nat → Prop) (B : BM) : List (Nat × AV) → List (Nat × Value) → Prop
  | [], ys => ys = []
  | (i, x) :: xs, ys => ∃ y r, ys = (i, y) :: r ∧ VR w Fb B x y ∧ VRP w Fb B xs r
theorem VRP.map {Fb : Nat → Prop} (hρ : ∀ x, VR w Fb B (ρ x) (a.eval x)) : ∀ parts : List (Nat × Operand), VRP w Fb B (parts.map fun (j, x) => (j, ρ x)) (parts.map fun (j, x) => (j, a.eval x))
  | [] => rfl
  | (i, x) :: r => ⟨_, _, rfl, hρ x, VRP.map hρ r⟩
theorem fill_sound {Fb : Nat → Prop} {place place' : Nat → Option (Nat × Nat)} (hp : ∀ i q, place i = some q → place' i = some q) : ∀ {xs : List (Nat × AV)} {ys : List (Nat × Value)} {cs cs' : List AV} {c : Array Value},
    VRP w Fb B xs ys → VRL w Fb B cs c.toList → afill place cs xs = some cs' → ∃ c', Instr.fill place' c ys = some c' ∧ VRL w Fb B cs' c'.toList ∧ cs'.length = cs.length
  | [], ys, cs, cs', c, h, hv, hf => by
    simp only [VRP] at h
    subst h
    simp only [afill, Option.some.injEq] at hf
    subst hf
    exact ⟨c, rfl, hv, rfl⟩
  | (i, x) :: xs, ys, cs, cs', c, h, hv, hf => by
    simp only [VRP] at h
    obtain ⟨y, r, rfl, h1, h2⟩ := h
    simp only [afill] at hf
    split at hf
    · cases hf
    · rename_i off size hpl
      split at hf
      · rename_i hc
        simp only [Bool.and_eq_true, beq_iff_eq, decide_eq_true_eq] at hc
        obtain ⟨⟨hs, hlen⟩, hle⟩ := hc
        have hcells := acells_solid h1 hs
        have hl1 := hcells.length
        have hl2 := hv.length
        have hsz : y.cells.size = size := by rw [← hlen, ← hl1]; simp
        have hcs : c.size = cs.length := by rw [← hl2]; simp
        let c1 := (y.cells.zipIdx.foldl (fun cs (x : Value × Nat) => cs.setIfInBounds (off + x.2) x.1) c)
        have e1 : c1.toList = c.toList.take off ++ y.cells.toList ++ c.toList.drop (off + y.cells.toList.length) := by
          have := setAll off y.cells.toList 0 c (by simp; omega)
          rw [Nat.add_zero] at this
          rw [← this]
          show (Array.foldl _ c y.cells.zipIdx).toList = _
          rw [← Array.foldl_toList]
          congr 2
          simp
        have hv1 : VRL w Fb B (splice cs off (acells x)) c1.toList := by
          rw [e1]
          unfold splice
          rw [hl1]
          exact VRL.append (VRL.append (VRL.take off hv) hcells) (VRL.drop _ hv)
        obtain ⟨c', hc', hv', hl'⟩ := fill_sound hp (c := c1) h2 hv1 hf
        refine ⟨c', ?_, hv', ?_⟩
        · simp only [Instr.fill, hp _ _ hpl]
          rw [if_neg (by simp; omega)]
          exact hc'
        · rw [hl']
          simp only [splice, List.length_append, List.length_take, List.length_drop]
          omega
      · cases hf
def ValOk (P : Program) (w : World) (F : Nat → Prop) (B : BM) (a : Act) (o : Oper) (x : AV) : Prop :=
  ∃ v, (execOp a.eval o).run P w = .ok (.value v) w ∧ VR w (Forb F B) B x v
theorem places_run : ∀ {fs : List Field} {pl : List (Nat × Nat)}, places P fs = some pl →
    (fs.mapM fun (f : Field) => do let s ← sizeOf f.type; pure (f.offset, s)).run P w = .ok pl w
  | [], pl, h => by simp only [places, Option.some.injEq] at h; subst h; rfl
  | f :: fs, pl, h => by
    simp only [places] at h
    split at h
    · rename_i s l hs hl
      cases h
      simp only [List.mapM_cons, Sem.run_bind, run_szOf hs, Result.andThen_ok, Sem.run_pure, places_run hl]
    · cases h
theorem op_build {o : Oper} {t : TypeId} {parts : Array (Nat × Operand)} (ho : o.op = .build t parts) (hρ : ∀ x, VR w (Forb F B) B (ρ x) (a.eval x)) {r : Res} (h : aop P H ρ o = some r) :
    ∃ x, r = .val x ∧ ValOk P w F B a o x := by
  simp only [aop, ho] at h
  split at h <;> try (cases h; done)
  rename_i i hi
  split at h <;> try (cases h; done)
  rename_i zv hz
  have hzr := fun w => run_zero (P := P) hi hz w
  have he : (parts.map fun (x : Nat × Operand) => (x.1, a.eval x.2)).toList = parts.toList.map fun (x : Nat × Operand) => (x.1, a.eval x.2) := by simp
  split at h
  · rename_i fields hu
    split at h <;> try (cases h; done)
    rename_i pl hpl
    obtain ⟨cs, hcs, rfl⟩ := Option.map_eq_some_iff.1 h
    obtain ⟨c', hc', hv', _⟩ := fill_sound (place := (pl[·]?)) (place' := (pl.toArray[·]?)) (fun i q hq => by simpa using hq) (VRP.map hρ parts.toList) (VRL.sc zv.cells.toList) hcs
    refine ⟨_, rfl, .agg c', ?_, by simp only [VR]; exact ⟨c', rfl, hv'⟩⟩
    have hm : (fields.mapM fun (f : Field) => do let s ← sizeOf f.type; pure (f.offset, s)).run P w = .ok pl.toArray w := by
      have := places_run (w := w) hpl
      have e : fields = fields.toList.toArray := by simp
      rw [e, List.mapM_toArray]
      simp only [Sem.run_map, this, Result.andThen_ok]
    simp only [execOp, ho, Instr.build, Sem.run_bind, hzr, Result.andThen_ok, Sem.run_pure, run_under hu, hm]
    rw [he, hc']
    rfl
  · rename_i n e hu
    split at h <;> try (cases h; done)
    rename_i s hs
    obtain ⟨cs, hcs, rfl⟩ := Option.map_eq_some_iff.1 h
    obtain ⟨c', hc', hv', _⟩ := fill_sound (place' := fun j => some (j * s, s)) (fun i q hq => hq) (VRP.map hρ parts.toList) (VRL.sc zv.cells.toList) hcs
    refine ⟨_, rfl, .agg c', ?_, by simp only [VR]; exact ⟨c', rfl, hv'⟩⟩
    simp only [execOp, ho, Instr.build, Sem.run_bind, hzr, Result.andThen_ok, Sem.run_pure, run_under hu, run_szOf hs]
    rw [he, hc']
    rfl
  · cases h
end
end Go.Proofs.YtigfnhbbfbnicaaA
