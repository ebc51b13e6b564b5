/- A law's arguments, read as data, as the evaluator's values tell them. -/
import Derived.Test.YtiphnjohbbpkpaaZl
import Derived.Test.YtiphnjohbbpkpaaZf
import Derived.OpenShut
import Derived.ChangeArms
import Derived.DataReads
import Derived.Below
namespace Go.Proofs.YtiphnjohbbpkpaaA
open Go Go.RowKit
set_option linter.all false
set_option linter.unusedSectionVars false
set_option linter.constructorNameAsVariable false
set_option linter.unusedVariables false
set_option linter.unusedSimpArgs false
theorem add2 (a : Addr) (m n : Nat) : (a.add m).add n = a.add (m + n) := by
  unfold Addr.add
  by_cases h1 : m = 0
  · subst h1; simp
  · by_cases h2 : n = 0
    · subst h2; simp [h1]
    · have h3 : ¬ m + n = 0 := by omega
      simp [h1, h2]
      omega
def nF : Nat → Prop := fun _ => False
theorem open_D2 {H : Type} {enc : TypeId × Value → H} {P : Program} {w : World} {base fuel : Nat} {spare : Nat → Bool} {held : Bool} {t : TypeId} {f0 f1 : Field} {cs : List Value} {y : DataW H × List MemPlace} (ht : P.underlying t = some (.struct #[f0, f1])) (o0 : f0.offset = 0) (o1 : f1.offset = 1)
    (t0 : P.underlying f0.type = some .string) (t1 : P.underlying f1.type = some .string) (c0 : P.cellsOf f0.type = 1) (c1 : P.cellsOf f1.type = 1) (ct : P.cellsOf t = 2) (h : DataW.trod enc P w base spare held fuel t cs = some y) : ∃ d : D2, cs = [.string d.1, .string d.2] := by
  obtain ⟨xs, n, _, _, hl, hx, hel⟩ := DataW.trod_struct ht h
  have h0 := hel 0 f0 rfl
  have h1 := hel 1 f1 rfl
  have hx2 : xs.length = 2 := hx
  rw [List.getElem?_eq_getElem (by omega), o0, c0] at h0
  rw [List.getElem?_eq_getElem (by omega), o1, c1] at h1
  obtain ⟨a, ha, _⟩ := DataW.trod_string t0 h0
  obtain ⟨b, hb, _⟩ := DataW.trod_string t1 h1
  rw [ct] at hl
  match cs, hl with
  | [u, v], _ =>
    simp only [List.drop_zero, List.take_succ_cons, List.take_zero, List.cons.injEq, and_true, List.drop_succ_cons] at ha hb
    exact ⟨(a, b), by rw [ha, hb]⟩
def cellsD (l : List D2) : List Value := (l.map fun d => [Value.string d.1, Value.string d.2]).flatten
theorem cells_at {w : World} {a : Addr} : ∀ (l : List D2) (off : Nat), (∀ (i : Nat) d, l[i]? = some d → w.cell? (a.add (off + i * 2)) = some (.string d.1) ∧ w.cell? (a.add (off + i * 2 + 1)) = some (.string d.2)) → ∀ (j : Nat) y, (cellsD l)[j]? = some y → w.cell? (a.add (off + j)) = some y
  | [], off, _, j, y, h => by simp [cellsD] at h
  | d :: l, off, hd, j, y, h => by
    obtain ⟨h0, h1⟩ := hd 0 d rfl
    have ih := cells_at l (off + 2) (fun i e he => by
      have := hd (i + 1) e (by simpa using he)
      rw [show off + (i + 1) * 2 = off + 2 + i * 2 by omega] at this
      exact this)
    simp only [cellsD, List.map_cons, List.flatten_cons, List.cons_append, List.nil_append] at h
    cases j with
    | zero => simp only [List.getElem?_cons_zero, Option.some.injEq] at h; rw [← h]; simpa using h0
    | succ j => cases j with
      | zero => simp only [List.getElem?_cons_succ, List.getElem?_cons_zero, Option.some.injEq] at h; rw [← h]; simpa using h1
      | succ j =>
        simp only [List.getElem?_cons_succ] at h
        have := ih j y h
        rw [show off + (j + 1 + 1) = off + 2 + j by omega]
        exact this
theorem cells_VRR {w : World} {Fb : Nat → Prop} : ∀ (l : List D2), VRR w Fb (l.map dr) (cellsD l)
  | [] => by simp only [List.map_nil, VRR]; rfl
  | d :: l => by
    simp only [List.map_cons, VRR]
    refine ⟨[.string d.1, .string d.2], cellsD l, rfl, ?_, cells_VRR l⟩
    simp only [dr, VRL, VR]
    exact ⟨_, _, rfl, rfl, _, _, rfl, rfl, rfl⟩
theorem exists_list {α : Type} {Q : Nat → α → Prop} : ∀ (n : Nat), (∀ i, i < n → ∃ x, Q i x) → ∃ xs : List α, xs.length = n ∧ ∀ (i : Nat) x, xs[i]? = some x → Q i x
  | 0, _ => ⟨[], rfl, fun i x h => by simp at h⟩
  | n + 1, h => by
    obtain ⟨xs, hl, hx⟩ := exists_list n fun i hi => h i (by omega)
    obtain ⟨x, hq⟩ := h n (by omega)
    refine ⟨xs ++ [x], by simp [hl], fun i y hy => ?_⟩
    by_cases hi : i < n
    · rw [List.getElem?_append_left (by omega)] at hy
      exact hx i y hy
    · rw [List.getElem?_append_right (by omega)] at hy
      have : i = n := by
        have := List.getElem?_eq_some_iff.1 hy
        obtain ⟨h1, _⟩ := this
        simp at h1
        omega
      subst this
      rw [hl, Nat.sub_self] at hy
      simp at hy
      subst hy
      exact hq
theorem open_list {H : Type} {enc : TypeId × Value → H} {w : World} {base fuel : Nat} {spare : Nat → Bool} {held : Bool} {t e : TypeId} {v : Value} {y : DataW H × List MemPlace} (hu : Try.prog.underlying t = some (.slice e)) (hs : szOf Try.prog e = some 2) (hc : Try.prog.cellsOf e = 2)
    (hd : ∀ (w : World) (base fuel : Nat) (spare : Nat → Bool) (held : Bool) (cs : List Value) (y : DataW H × List MemPlace), DataW.trod enc Try.prog w base spare held fuel e cs = some y → ∃ d : D2, cs = [.string d.1, .string d.2])
    (h : DataW.trod enc Try.prog w base spare held fuel t [v] = some y) : ∃ (l : List D2) (x : AV), LD t l x ∧ VR w nF BM.none x v := by
  rcases DataW.trod_slice hu h with ⟨hcs, _⟩ | ⟨a, len, cap, elems, rest, m, _, hcs, _, hb, hl, hm, hn, hel, _⟩
  · simp only [List.cons.injEq, and_true] at hcs
    subst hcs
    exact ⟨[], .sc (.slice none 0 0), LV.nil hu, by simp only [VR]⟩
  · simp only [List.cons.injEq, and_true] at hcs
    subst hcs
    obtain ⟨l, hll, hq⟩ := exists_list (α := D2) (Q := fun i d => w.cell? (a.add (0 + i * 2)) = some (.string d.1) ∧ w.cell? (a.add (0 + i * 2 + 1)) = some (.string d.2)) len (by
      intro i hi
      have := hel i hi
      rw [List.getElem?_eq_getElem (by omega), Option.bind_eq_some_iff] at this
      obtain ⟨c, hc1, hc2⟩ := this
      obtain ⟨_, hcl, hcell⟩ := World.cells?_some hc1
      obtain ⟨d, rfl⟩ := hd w base m spare held c _ hc2
      rw [hc] at hcell
      have e0 := hcell 0 (by omega)
      have e1 := hcell 1 (by omega)
      rw [add2] at e0 e1
      refine ⟨d, ?_, ?_⟩
      · rw [Nat.zero_add]; simpa using e0
      · rw [Nat.zero_add]; simpa using e1)
    refine ⟨l, .lst 2 (l.map dr), LV.lst hu hs (by omega), ?_⟩
    simp only [VR]
    refine ⟨some a, cap, cellsD l, by rw [List.length_map, hll], by rw [List.length_map, hll]; exact hl, fun r hr => ?_, cells_VRR l, fun y hy => ?_, .inr ⟨a, rfl, fun hf => hf.elim, fun j y hj => ?_⟩⟩
    · obtain ⟨d, _, rfl⟩ := List.mem_map.1 hr; rfl
    · obtain ⟨r, hr, hy⟩ := List.mem_flatten.1 hy
      obtain ⟨d, _, rfl⟩ := List.mem_map.1 hr
      simp only [List.mem_cons, List.not_mem_nil, or_false] at hy
      rcases hy with rfl | rfl <;> rfl
    · have := cells_at l 0 hq j y hj
      rwa [Nat.zero_add] at this
theorem forb_none {B : BM} (hB : B = BM.none) : Forb nF B = nF := by
  funext i
  apply propext
  constructor
  · rintro (h | ⟨b, v, c, h⟩)
    · exact h
    · rw [hB] at h; cases h
  · exact fun h => .inl h
/-- A run of the evaluator, from values that are the caller's, is a call. -/
theorem call_of {k : Nat} {f : FuncId} {args : List AV} {u : Value} {H1 : List Blk} {w : World} {vs : List Value} (h : arun Try.prog cf k f args [] = some (.sc u, H1)) (hv : VRL w nF BM.none args vs) :
    Calls Try.prog f vs.toArray w fun e w' => e = .returned u ∧ Below w.heap.size w w' := by
  have hok := (right fit k f args [] (.sc u) H1 h).2
  refine (hok w nF BM.none vs (HR.empty (fun i hi => hi.elim)) (fun b hb => by cases hb) (by rw [forb_none rfl]; exact hv)).mono ?_
  rintro e w' ⟨v, B1, rfl, hE, _, _, hr⟩
  simp only [VR] at hr
  rw [hr]
  exact ⟨rfl, ⟨hE.os, hE.tape, hE.output, hE.size, fun i hi => (hE.keep i hi none_own).1⟩⟩
end Go.Proofs.YtiphnjohbbpkpaaA
