/- A part of the proof of AdornAsks: functions of the program, run by the evaluator. -/

/- Regions that draw their order: an operation looks at its operands alone. -/
import Derived.Test.YtigfnhbbfbnicaaAvN
namespace Go.Proofs.YtigfnhbbfbnicaaA
open Go Go.RowKit
set_option linter.all false
set_option linter.unusedSectionVars false
set_option linter.constructorNameAsVariable false
set_option linter.unusedVariables false
set_option linter.unusedSimpArgs false
section
variable {P : Program} {H : List Blk} {ρ ρ' : Operand → AV} {o : Oper}
theorem sop_congr (h : ∀ x ∈ o.op.operands, ρ x = ρ' x) : sop P ρ o = sop P ρ' o := by
  unfold sop
  have h1 : (o.op.operands.all fun x => (toV (ρ x)).isSome) = (o.op.operands.all fun x => (toV (ρ' x)).isSome) := by
    rw [Bool.eq_iff_iff, Array.all_eq_true', Array.all_eq_true']
    exact ⟨fun k x hx => by rw [← h x hx]; exact k x hx, fun k x hx => by rw [h x hx]; exact k x hx⟩
  rw [h1]
  cases hs : isSel o.op with
  | true => simp
  | false =>
    have h2 : execOp (fun x => (toV (ρ x)).getD undef) o = execOp (fun x => (toV (ρ' x)).getD undef) o :=
      execOp_congr o (fun cs b e => by rw [e] at hs; simp [isSel] at hs) (fun x hx => by rw [h x hx])
    rw [h2]
theorem parts_congr {parts : Array (Nat × Operand)} (h : ∀ x ∈ (parts.toList.map (·.2)).toArray, ρ x = ρ' x) : (parts.toList.map fun (x : Nat × Operand) => (x.1, ρ x.2)) = parts.toList.map fun (x : Nat × Operand) => (x.1, ρ' x.2) := by
  refine List.map_congr_left fun p hp => ?_
  rw [h p.2 (by simp only [List.mem_toArray, List.mem_map]; exact ⟨p, hp, rfl⟩)]
theorem opt_congr {x : Option Operand} (h : ∀ y ∈ x.toArray, ρ y = ρ' y) : x.map ρ = x.map ρ' := by
  cases x with
  | none => rfl
  | some y => simp only [Option.map_some]; rw [h y (by simp)]
theorem callee_congr {c : Call} (h : ∀ x ∈ c.operands, ρ x = ρ' x) : callee ρ c = callee ρ' c := by
  unfold callee
  cases hc : c.callee with
  | value f =>
    have hf : ρ f = ρ' f := h f (by simp [Call.operands, hc])
    have ha : c.args.toList.map ρ = c.args.toList.map ρ' := List.map_congr_left fun x hx => h x (by simp [Call.operands, hc]; exact .inr (by simpa using hx))
    simp only [hf, ha]
  | invoke r m => rfl
  | builtin b => rfl
theorem aop_congr (h : ∀ x ∈ o.op.operands, ρ x = ρ' x) : aop P H ρ o = aop P H ρ' o := by
  have hs := sop_congr (P := P) h
  cases ho : o.op <;> rw [ho] at h <;> simp only [Op.operands] at h
  case makeFunc fn first caps =>
    cases fn <;> simp only [aop, ho, hs]
    have : caps.toList.map ρ = caps.toList.map ρ' := List.map_congr_left fun x hx => h x (by simp; exact .inr (by simpa using hx))
    rw [this]
  case build t parts => simp only [aop, ho]; rw [parts_congr h]
  case buildSlice t n parts => simp only [aop, ho]; rw [parts_congr h]
  case slice t x lo hi mx =>
    have hx := h x (by simp)
    have h1 : lo.map ρ = lo.map ρ' := opt_congr fun y hy => h y (by simp at hy ⊢; simp [hy])
    have h2 : hi.map ρ = hi.map ρ' := opt_congr fun y hy => h y (by simp at hy ⊢; simp [hy])
    have h3 : ∀ m, mx = some m → ρ m = ρ' m := fun m hm => h m (by subst hm; simp)
    simp only [aop, ho, hs, hx, h1, h2]
    cases mx with
    | none => rfl
    | some m => simp only [h3 m rfl]
  case makeMap t q =>
    cases q with
    | none => simp only [aop, ho]
    | some y => simp only [aop, ho, h y (by simp)]
  case call c =>
    have ha : ∀ x ∈ c.args, ρ x = ρ' x := fun x hx => h x (by simp only [Call.operands, Array.mem_append]; exact .inr hx)
    simp only [aop, ho]
    cases hc : c.callee with
    | value f => rfl
    | invoke r m => rfl
    | builtin b =>
      cases b <;> try simp only [hs]
      case len =>
        cases h0 : c.args[0]? with
        | none => rfl
        | some x =>
          cases h1 : c.argTypes[0]? with
          | none => rfl
          | some t => simp only [ha x (Array.mem_of_getElem? h0)]
      case unsafeSliceData =>
        split
        · rename_i x e1
          rw [ha x (by rw [← Array.mem_toList_iff, e1]; simp)]
        · rfl
      case unsafeString =>
        split
        · rename_i s x t u e1 e2
          rw [ha s (by rw [← Array.mem_toList_iff, e1]; simp), ha x (by rw [← Array.mem_toList_iff, e1]; simp)]
        · rfl
      case append =>
        split
        · rename_i s x t u e1 e2
          rw [ha s (by rw [← Array.mem_toList_iff, e1]; simp), ha x (by rw [← Array.mem_toList_iff, e1]; simp)]
        · rfl
      case clear =>
        split
        · rename_i x t e1 e2
          rw [ha x (by rw [← Array.mem_toList_iff, e1]; simp)]
        · rfl
      case copy =>
        split
        · rename_i s x t u e1 e2
          rw [ha s (by rw [← Array.mem_toList_iff, e1]; simp), ha x (by rw [← Array.mem_toList_iff, e1]; simp)]
        · rfl
  all_goals first
    | (simp only [aop, ho, hs]; done)
    | (simp only [aop, ho, hs]; simp_all; done)
end
end Go.Proofs.YtigfnhbbfbnicaaA
