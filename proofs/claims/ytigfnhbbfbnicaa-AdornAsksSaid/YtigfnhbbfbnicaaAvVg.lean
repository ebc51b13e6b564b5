/- A part of the proof of AdornAsks: functions of the program, run by the evaluator. -/

/- The evaluator's equations: a part of a row, or of an array. -/
import Derived.Test.YtigfnhbbfbnicaaAvY
namespace Go.Proofs.YtigfnhbbfbnicaaA
open Go Go.RowKit
set_option linter.all false
set_option linter.unusedSectionVars false
set_option linter.constructorNameAsVariable false
set_option linter.unusedVariables false
def aSliceG (P : Program) (H : List Blk) (ρ : Operand → AV) (o : Oper) (t : TypeId) (u : AV) (lo hi : Option AV) : Option Res := match u with
  | .lst sz rows => match P.underlying t, bnd hi rows.length rows.length with
    | some (.slice e), some h => match bnd lo 0 h, szOf P e with
      | some l, some s => if s = sz || rows.isEmpty then some (.val (mkL sz ((rows.take h).drop l))) else none
      | _, _ => none
    | _, _ => none
  | .own b o len sz ver => match P.underlying t, bnd hi len len, blkAt H b ver with
    | some (.slice e), some h, some _ => match bnd lo 0 h, szOf P e with
      | some l, some s => if s = sz then some (.val (if l = h && l != 0 then .lst sz [] else .own b (o + l) (h - l) sz ver)) else none
      | _, _ => none
    | _, _, _ => none
  | .ptr b off ver => match P.underlying t, (none : Option Operand), blkAt H b ver with
    | some (.array n e), none, some blk => match bnd hi n n, szOf P e with
      | some h, some s => match bnd lo 0 h with
        | some l => if 0 < s && off % s == 0 && !blk.grow then some (.val (if l = h then .lst s [] else .own b (off / s + l) (h - l) s ver)) else none
        | none => none
      | _, _ => none
    | _, _, _ => none
  | _ => aop P H ρ o
section
variable {P : Program} {H : List Blk} {ρ : Operand → AV} {d : Option Tmp} {t ty : TypeId} {pos : String} {af : Array Edge} {g : Option (Nat × Bool)} {x i h : Operand}
theorem aop_slice00 : aop P H ρ ⟨d, .slice t x none none none, ty, pos, af, g⟩ = aSliceG P H ρ ⟨d, .slice t x none none none, ty, pos, af, g⟩ t (ρ x) none none := by
  unfold aSliceG
  split
  · rename_i h; simp only [aop, h, Option.map_none]
    rfl
  · rename_i h; simp only [aop, h, Option.map_none]
    rfl
  · rename_i h; simp only [aop, h, Option.map_none]
    rfl
  · rfl
theorem aop_slice10 : aop P H ρ ⟨d, .slice t x (some i) none none, ty, pos, af, g⟩ = aSliceG P H ρ ⟨d, .slice t x (some i) none none, ty, pos, af, g⟩ t (ρ x) (some (ρ i)) none := by
  unfold aSliceG
  split
  · rename_i h; simp only [aop, h, Option.map_none, Option.map_some]
    rfl
  · rename_i h; simp only [aop, h, Option.map_none, Option.map_some]
    rfl
  · rename_i h; simp only [aop, h, Option.map_none, Option.map_some]
    rfl
  · rfl
theorem aop_slice01 : aop P H ρ ⟨d, .slice t x none (some h) none, ty, pos, af, g⟩ = aSliceG P H ρ ⟨d, .slice t x none (some h) none, ty, pos, af, g⟩ t (ρ x) none (some (ρ h)) := by
  unfold aSliceG
  split
  · rename_i h; simp only [aop, h, Option.map_none, Option.map_some]
    rfl
  · rename_i h; simp only [aop, h, Option.map_none, Option.map_some]
    rfl
  · rename_i h; simp only [aop, h, Option.map_none, Option.map_some]
    rfl
  · rfl
theorem bnd_no {n m : Nat} : bnd none n m = some n := rfl
theorem bnd_nat {q : IntKind} {i n m : Nat} : bnd (some (.sc (.int q (i : Nat)))) n m = if i ≤ m then some i else none := by
  simp [bnd, aint]
theorem slG_lst {o : Oper} {sz : Nat} {rows : List (List AV)} {lo hi : Option AV} : aSliceG P H ρ o t (mkL sz rows) lo hi = match P.underlying t, bnd hi rows.length rows.length with
    | some (.slice e), some h => match bnd lo 0 h, szOf P e with
      | some l, some s => if s = sz || rows.isEmpty then some (.val (mkL sz ((rows.take h).drop l))) else none
      | _, _ => none
    | _, _ => none := by
  cases rows with
  | cons r rs => rfl
  | nil =>
    show aSliceG P H ρ o t (.lst 0 []) lo hi = _
    simp only [aSliceG, List.isEmpty_nil, Bool.or_true, if_true, List.take_nil, List.drop_nil, mkL]
theorem slG_own {o : Oper} {b o1 len sz ver : Nat} {lo hi : Option AV} : aSliceG P H ρ o t (.own b o1 len sz ver) lo hi = match P.underlying t, bnd hi len len, blkAt H b ver with
    | some (.slice e), some h, some _ => match bnd lo 0 h, szOf P e with
      | some l, some s => if s = sz then some (.val (if l = h && l != 0 then .lst sz [] else .own b (o1 + l) (h - l) sz ver)) else none
      | _, _ => none
    | _, _, _ => none := rfl
theorem slG_ptr {o : Oper} {b off ver : Nat} {lo hi : Option AV} : aSliceG P H ρ o t (.ptr b off ver) lo hi = match P.underlying t, (none : Option Operand), blkAt H b ver with
    | some (.array n e), none, some blk => match bnd hi n n, szOf P e with
      | some h, some s => match bnd lo 0 h with
        | some l => if 0 < s && off % s == 0 && !blk.grow then some (.val (if l = h then .lst s [] else .own b (off / s + l) (h - l) s ver)) else none
        | none => none
      | _, _ => none
    | _, _, _ => none := rfl
end
def aConv2 (P : Program) (H : List Blk) (ρ : Operand → AV) (o : Oper) (src dst : TypeId) (u : AV) : Option Res := match u with
  | .sc (.int k n) => (pOut P (convert src dst (.int k n))).map .val
  | u => aConv P H ρ o src dst u
section
variable {P : Program} {H : List Blk} {ρ : Operand → AV} {d : Option Tmp} {ty : TypeId} {pos : String} {af : Array Edge} {g : Option (Nat × Bool)}
theorem aop_convert2 {src dst : TypeId} {x : Operand} : aop P H ρ ⟨d, .convert src dst x, ty, pos, af, g⟩ = aConv2 P H ρ ⟨d, .convert src dst x, ty, pos, af, g⟩ src dst (ρ x) := by
  unfold aConv2
  split
  · rename_i k n h
    have h0 : toV (ρ x) = some (.int k n) := by rw [h]; rfl
    rw [aop_convert, h]
    simp only [aConv]
    rw [sop_v (s := convert src dst (.int k n)) (by simp [Op.operands, h0]) rfl (by simp [execOp, h0])]
  · rw [aop_convert]
theorem aConv2_ptr {o : Oper} {src dst : TypeId} {b off ver : Nat} : aConv2 P H ρ o src dst (.ptr b off ver) = aConv P H ρ o src dst (.ptr b off ver) := rfl
theorem aConv2_int {o : Oper} {src dst : TypeId} {k k' : IntKind} {n : Int} (hs : (P.underlying src).isSome = true) (hd : P.underlying dst = some (.int k')) : aConv2 P H ρ o src dst (.sc (.int k n)) = some (.val (.sc (.int k' (k'.wrap n)))) := by
  obtain ⟨d', hd'⟩ := Option.isSome_iff_exists.mp hs
  simp [aConv2, pOut, convert, pureRun_bind, pureRun_under hd', pureRun_under hd, Conv.intToInt, pureRun_pure, ofV]
end
end Go.Proofs.YtigfnhbbfbnicaaA
