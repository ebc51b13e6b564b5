/- A law's arguments, read as data, as the printed words tell them: for each kind of type, that what is read is of that kind. -/
import Derived.OpenShut
import Derived.ChangeArms
import Derived.DataReads
import Derived.Test.YtigpeemgnocdhaaWWords
namespace Go.Proofs.Ytigpeemgnocdhaa.Open
open Go.Proofs.YtigpeemgnocdhaaW.PrintWords
set_option linter.unusedVariables false

/-- Whatever is read at type t is of kind d, and G holds of it. -/
def Opens {α : Type} (P : Program) (t : TypeId) (d : Kd α) (G : α → Prop) : Prop :=
  ∀ {H : Type} (enc : TypeId × Value → H) (w : World) (base : Nat) (spare : Nat → Bool) (held : Bool) (fuel : Nat) (cs : List Value) (y : DataW H × List MemPlace),
    DataW.trod enc P w base spare held fuel t cs = some y → ∃ x, d.K w x cs ∧ G x

section
variable {α β : Type} {P : Program} {t e : TypeId}
theorem opens_int {k : IntKind} (ht : P.underlying t = some (.int k)) : Opens P t (Kd.int k) (fun n => (Lit.int k n).wf = true) := by
  intro H enc w base spare held fuel cs y h
  obtain ⟨n, hc, _, hw⟩ := DataW.trod_int ht h
  exact ⟨n, hc, hw⟩
theorem opens_bool (ht : P.underlying t = some .bool) : Opens P t Kd.bool (fun _ => True) := by
  intro H enc w base spare held fuel cs y h
  obtain ⟨n, hc, _⟩ := DataW.trod_bool ht h
  exact ⟨n, hc, trivial⟩
theorem opens_string (ht : P.underlying t = some .string) : Opens P t Kd.string (fun s => s.size ≤ maxLen) := by
  intro H enc w base spare held fuel cs y h
  obtain ⟨s, hc, _, hw⟩ := DataW.trod_string ht h
  exact ⟨s, hc, hw⟩
theorem exists_list {Q : Nat → α → Prop} : ∀ (n : Nat), (∀ i, i < n → ∃ x, Q i x) → ∃ xs : List α, xs.length = n ∧ ∀ i x, xs[i]? = some x → Q i x
  | 0, _ => ⟨[], rfl, fun i x h => by simp at h⟩
  | n + 1, h => by
    obtain ⟨xs, hl, hx⟩ := exists_list n fun i hi => h i (by omega)
    obtain ⟨x, hq⟩ := h n (by omega)
    refine ⟨xs ++ [x], by simp [hl], fun i y hy => ?_⟩
    by_cases hi : i < n
    · rw [List.getElem?_append_left (by omega)] at hy
      exact hx i y hy
    · rw [List.getElem?_append_right (by omega)] at hy
      have : i = n := by
        have := List.getElem?_eq_some_iff.1 hy
        obtain ⟨h1, _⟩ := this
        simp at h1
        omega
      subst this
      rw [hl, Nat.sub_self] at hy
      simp at hy
      subst hy
      exact hq
theorem opens_slice {d : Kd α} {G : α → Prop} (ht : P.underlying t = some (.slice e)) (hsz : P.cellsOf e = d.sz) (hd : Opens P e d G) :
    Opens P t (Kd.slice e d) (fun xs => ∀ x ∈ xs, G x) := by
  intro H enc w base spare held fuel cs y h
  rcases DataW.trod_slice ht h with ⟨hc, _⟩ | ⟨a, len, cap, elems, rest, m, _, hc, _, hb, hl, hm, hn, hel, _⟩
  · exact ⟨[], ⟨none, 0, hc, Nat.le_refl _, Kd.C_nil d w⟩, fun x hx => by simp at hx⟩
  · obtain ⟨xs, hxl, hxs⟩ := exists_list (α := α) (Q := fun i x => ∃ c, c.length = d.sz ∧ d.K w x c ∧ G x ∧ ∀ j u, c[j]? = some u → w.cell? (a.add (i * d.sz + j)) = some u) len (by
      intro i hi
      have := hel i hi
      rw [List.getElem?_eq_getElem (by omega)] at this
      rw [Option.bind_eq_some_iff] at this
      obtain ⟨c, hc1, hc2⟩ := this
      obtain ⟨_, hcl, hcell⟩ := World.cells?_some hc1
      obtain ⟨x, hK, hG⟩ := hd enc w base spare held m c _ hc2
      refine ⟨x, c, by rw [hcl, hsz], hK, hG, fun j u hj => ?_⟩
      have hjl : j < P.cellsOf e := by rw [← hcl]; exact (List.getElem?_eq_some_iff.1 hj).1
      rw [← hsz, ← Go.Addr.add_add, hcell j hjl]
      exact hj)
    subst hxl
    refine ⟨xs, ⟨some a, cap, hc, hl, rfl, ?_, fun _ => ⟨a, rfl, fun j p hj => ?_⟩⟩, fun x hx => ?_⟩
    · unfold maxLen at hm; omega
    · obtain ⟨c, h1, h2, _, h3⟩ := hxs j p hj
      exact ⟨c, h1, h2, h3⟩
    · obtain ⟨i, hi, rfl⟩ := List.getElem_of_mem hx
      obtain ⟨c, _, _, h3, _⟩ := hxs i _ (List.getElem?_eq_getElem hi)
      exact h3
theorem opens_array2 {d : Kd α} {G : α → Prop} (ht : P.underlying t = some (.array 2 e)) (hsz : P.cellsOf e = d.sz) (htz : P.cellsOf t = 2 * d.sz) (hd : Opens P e d G) :
    Opens P t (Kd.pair d d) (fun x => G x.1 ∧ G x.2) := by
  intro H enc w base spare held fuel cs y h
  obtain ⟨xs, m, _, _, hl, hx, hel⟩ := DataW.trod_array ht h
  have h0 := hel 0 (by omega)
  have h1 := hel 1 (by omega)
  rw [List.getElem?_eq_getElem (by omega)] at h0 h1
  rw [hsz] at h0 h1
  obtain ⟨x0, k0, g0⟩ := hd enc w base spare held m _ _ h0
  obtain ⟨x1, k1, g1⟩ := hd enc w base spare held m _ _ h1
  refine ⟨(x0, x1), ⟨_, _, ?_, k0, k1⟩, g0, g1⟩
  rw [Nat.zero_mul, List.drop_zero, Nat.one_mul, List.take_of_length_le (l := cs.drop d.sz) (by simp; omega), List.take_append_drop]
theorem opens_iso {d : Kd α} {G : α → Prop} {f : β → α} {g : α → β} (hfg : ∀ a, f (g a) = a) (hd : Opens P t d G) : Opens P t (Kd.iso d f) (fun b => G (f b)) := by
  intro H enc w base spare held fuel cs y h
  obtain ⟨x, hK, hG⟩ := hd enc w base spare held fuel cs y h
  exact ⟨g x, by show d.K w (f (g x)) cs; rw [hfg]; exact hK, by show G (f (g x)); rw [hfg]; exact hG⟩
/-- A slice that is an argument. -/
theorem open_arg {d : Kd α} {G : List α → Prop} {H : Type} {enc : TypeId × Value → H} {w : World} {base : Nat} {spare : Nat → Bool} {held : Bool} {v : Value} {dd : DataW H} {ps : List MemPlace}
    (hd : Opens P t (Kd.slice e d) G) (h : DataW.Trod enc P w base spare held t v dd ps) : ∃ A c xs, v.cells.toList = [.slice A xs.length c] ∧ xs.length ≤ c ∧ d.C w A xs.length xs ∧ G xs := by
  obtain ⟨fuel, hf⟩ := h
  obtain ⟨xs, ⟨A, c, hc, hl, hC⟩, hG⟩ := hd enc w base spare held fuel _ _ hf
  exact ⟨A, c, xs, hc, hl, hC, hG⟩
end
end Go.Proofs.Ytigpeemgnocdhaa.Open
