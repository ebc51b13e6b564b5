/- A part of the proof of AdornAsks: functions of the program, run by the evaluator. -/

/- Maps from names to numbers; adorn.closed. -/
import Derived.Test.YtigfnhbbfbnicaaN13
namespace Go.Proofs.YtigfnhbbfbnicaaA
open Go Go.RowKit
set_option linter.all false
set_option linter.unusedSectionVars false
set_option linter.constructorNameAsVariable false
set_option linter.unusedVariables false
set_option linter.unusedSimpArgs false
abbrev SM := List (ByteArray × Int)
def encM (m : SM) : List (Value × AV) := m.map fun p => (.string p.1, .sc (.int .i64 p.2))
def lookM : SM → ByteArray → Int
  | [], _ => 0
  | p :: m, s => if p.1 = s then p.2 else lookM m s
def putM : SM → ByteArray → Int → SM
  | [], s, v => [(s, v)]
  | p :: m, s, v => if p.1 = s then (s, v) :: m else p :: putM m s v
theorem look_put (m : SM) (s t : ByteArray) (v : Int) : lookM (putM m s v) t = if t = s then v else lookM m t := by
  induction m with
  | nil =>
    by_cases h : s = t
    · simp [putM, lookM, h]
    · simp [putM, lookM, h]
      exact fun e => absurd e.symm h
  | cons p m ih =>
    by_cases hp : p.1 = s
    · by_cases h : s = t
      · simp [putM, lookM, hp, h]
      · have h' : ¬ t = s := fun e => h e.symm
        simp [putM, lookM, hp, h, h']
    · by_cases h : p.1 = t
      · have h' : ¬ t = s := fun e => hp (h.trans e)
        simp [putM, lookM, hp, h, h']
      · simp [putM, lookM, hp, h, ih]
def aLook (P : Program) (H : List Blk) (t : TypeId) (x k : AV) (ok : Bool) : Option Res := match P.underlying t with
    | some (.map kt et) =>
      match simpleKey P kt, mapOf H x, akey k, P.info? et with
      | some kd, some kvs, some kv, some i =>
        match i.zero, afind kd kv kvs 0 with
        | some zv, some r => some (.val (if ok then .tup [(hit zv r).1, .sc (.bool (hit zv r).2)] else (hit zv r).1))
        | _, _ => none
      | _, _, _, _ => none
    | _ => none
def aPutM (P : Program) (H : List Blk) (t : TypeId) (m k x : AV) : Option Res := match P.underlying t with
    | some (.map kt _) =>
      match simpleKey P kt, m, akey k with
      | some kd, .mp b ver, some kv =>
        match mapAt H b ver with
        | some (blk, kvs) => match afind kd kv kvs 0 with
          | some (some (i, _)) => some (.upd .bad b { blk with kind := .map (kvs.set i (kv, x)) })
          | some none => some (.upd .bad b { blk with kind := .map (kvs ++ [(kv, x)]) })
          | none => none
        | none => none
      | _, _, _ => none
    | _ => none
def aMkM (P : Program) (H : List Blk) (t : TypeId) : Option Res := match P.underlying t with
    | some (.map _ _) => some (.new (.mp H.length 0) ⟨0, 0, 0, false, [], .map []⟩)
    | _ => none
section
variable {P : Program} {H : List Blk} {ρ : Operand → AV} {d : Option Tmp} {t ty : TypeId} {pos : String} {af : Array Edge} {g : Option (Nat × Bool)} {x y w : Operand}
theorem aop_lookup {ok : Bool} : aop P H ρ ⟨d, .lookup t x y ok, ty, pos, af, g⟩ = aLook P H t (ρ x) (ρ y) ok := rfl
theorem aop_mapUpdate : aop P H ρ ⟨d, .mapUpdate t x y w, ty, pos, af, g⟩ = aPutM P H t (ρ x) (ρ y) (ρ w) := rfl
theorem aop_makeMap : aop P H ρ ⟨d, .makeMap t none, ty, pos, af, g⟩ = aMkM P H t := rfl
end
theorem mkM {H : List Blk} : aMkM Try.prog H 64 = some (.new (.mp H.length 0) ⟨0, 0, 0, false, [], .map []⟩) := by
  unfold aMkM
  rw [Try.underlying64]
theorem sameS (a b : ByteArray) : Instr.sameNow .string (.string a) (.string b) = some (decide (a = b)) := by
  simp only [Instr.sameNow]
  rw [show (a == b) = decide (a = b) by rw [beq_toListBytes, bytes_eq]]
theorem afind_enc (s : ByteArray) : ∀ (m : SM) (i : Nat), ∃ r, afind .string (.string s) (encM m) i = some r ∧ (hit (.int .i64 0) r).1 = .sc (.int .i64 (lookM m s)) ∧
    (match r with | some (j, _) => i ≤ j ∧ ∀ v, (encM m).set (j - i) (.string s, .sc (.int .i64 v)) = encM (putM m s v) | none => ∀ v, encM m ++ [(.string s, .sc (.int .i64 v))] = encM (putM m s v))
  | [], i => ⟨none, rfl, rfl, fun v => rfl⟩
  | p :: m, i => by
    obtain ⟨r, h1, h2, h3⟩ := afind_enc s m (i + 1)
    by_cases hp : p.1 = s
    · refine ⟨some (i, .sc (.int .i64 p.2)), ?_, ?_, Nat.le_refl _, fun v => ?_⟩
      · simp only [encM, List.map_cons, afind, sameS, hp.symm, decide_true]
      · simp only [hit, lookM, if_pos hp]
      · simp only [Nat.sub_self, encM, List.map_cons, List.set_cons_zero, putM, if_pos hp]
    · have hp' : ¬ s = p.1 := fun e => hp e.symm
      refine ⟨r, ?_, ?_, ?_⟩
      · simp only [encM, List.map_cons, afind, sameS, hp', decide_false]
        exact h1
      · simp only [lookM, if_neg hp]
        exact h2
      · cases r with
        | none =>
          intro v
          have := h3 v
          simp only [encM, List.map_cons, putM, if_neg hp, List.cons_append] at this ⊢
          rw [this]
        | some q =>
          obtain ⟨j, z⟩ := q
          simp only at h3 ⊢
          refine ⟨by omega, fun v => ?_⟩
          have := h3.2 v
          obtain ⟨q, hq⟩ : ∃ q, j - i = q + 1 := ⟨j - i - 1, by omega⟩
          have hq2 : j - (i + 1) = q := by omega
          rw [hq2] at this
          rw [hq]
          simp only [encM, List.map_cons, putM, if_neg hp, List.set_cons_succ] at this ⊢
          rw [this]
theorem skS : simpleKey Try.prog 9 = some .string := by
  unfold simpleKey
  rw [Try.underlying9]
theorem zeroI : ((Try.prog.info? 3).bind (·.zero)) = some (.int .i64 0) := by kernel_rfl
theorem look_sI {H : List Blk} {x : AV} {m : SM} {s : ByteArray} (hm : mapOf H x = some (encM m)) : aLook Try.prog H 64 x (.sc (.string s)) false = some (.val (.sc (.int .i64 (lookM m s)))) := by
  obtain ⟨r, h1, h2, _⟩ := afind_enc s m 0
  obtain ⟨i, hi, hz⟩ := Option.bind_eq_some_iff.1 zeroI
  unfold aLook
  rw [Try.underlying64]
  simp only [skS, hm, akey, hi, hz, h1, h2, Bool.false_eq_true, if_false]
theorem put_sI {H : List Blk} {b : Nat} {blk : Blk} {m : SM} {s : ByteArray} {v : Int} (hm : H[b]? = some ⟨0, 0, 0, false, [], .map (encM m)⟩) : aPutM Try.prog H 64 (.mp b 0) (.sc (.string s)) (.sc (.int .i64 v)) = some (.upd .bad b ⟨0, 0, 0, false, [], .map (encM (putM m s v))⟩) := by
  obtain ⟨r, h1, _, h3⟩ := afind_enc s m 0
  unfold aPutM
  rw [Try.underlying64]
  simp only [skS, akey, mapAt, hm, Nat.beq_refl, cond_true, h1]
  cases r with
  | none => simp only; rw [h3 v]
  | some q =>
    obtain ⟨j, z⟩ := q
    simp only at h3 ⊢
    rw [← h3.2 v, Nat.sub_zero]
theorem mapOf_mp {H : List Blk} {b : Nat} {m : SM} (hm : H[b]? = some ⟨0, 0, 0, false, [], .map (encM m)⟩) : mapOf H (.mp b 0) = some (encM m) := by
  simp only [mapOf, mapAt, hm, Nat.beq_refl, cond_true, Option.map_some]
end Go.Proofs.YtigfnhbbfbnicaaA
