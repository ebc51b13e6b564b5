/- A law's arguments, read as data, as the printed words tell them: for each kind of type, that what is read is of that kind. -/
import Derived.OpenShut
import Derived.ChangeArms
import Derived.DataReads
import Derived.Test.YtfkilcegdajdcaaWWords
import Derived.Test.YtfkilcegdajdcaaPZx0
namespace Go.Proofs.Ytfkilcegdajdcaa.Open
open Go.Proofs.YtfkilcegdajdcaaW.PrintWords
set_option linter.unusedVariables false
def Opens {α : Type} (P : Program) (t : TypeId) (d : Kd α) (G : α → Prop) : Prop :=
  ∀ {H : Type} (enc : TypeId × Value → H) (w : World) (base : Nat) (spare : Nat → Bool) (held : Bool) (fuel : Nat) (cs : List Value) (y : DataW H × List MemPlace),
    DataW.trod enc P w base spare held fuel t cs = some y → ∃ x, d.K w x cs ∧ G x
section
variable {α β : Type} {P : Program} {t e : TypeId}
theorem opens_int {k : IntKind} (ht : P.underlying t = some (.int k)) : Opens P t (Kd.int k) (fun n => (Lit.int k n).wf = true) := by
  intro H enc w base spare held fuel cs y h
  obtain ⟨n, hc, _, hw⟩ := DataW.trod_int ht h
  exact ⟨n, hc, hw⟩
theorem opens_string (ht : P.underlying t = some .string) : Opens P t Kd.string (fun s => s.size ≤ maxLen) := by
  intro H enc w base spare held fuel cs y h
  obtain ⟨s, hc, _, hw⟩ := DataW.trod_string ht h
  exact ⟨s, hc, hw⟩
theorem exists_list {Q : Nat → α → Prop} : ∀ (n : Nat), (∀ i, i < n → ∃ x, Q i x) → ∃ xs : List α, xs.length = n ∧ ∀ i x, xs[i]? = some x → Q i x
  | 0, _ => ⟨[], rfl, fun i x h => by simp at h⟩
  | n + 1, h => by
    obtain ⟨xs, hl, hx⟩ := exists_list n fun i hi => h i (by omega)
    obtain ⟨x, hq⟩ := h n (by omega)
    refine ⟨xs ++ [x], by simp [hl], fun i y hy => ?_⟩
    by_cases hi : i < n
    · rw [List.getElem?_append_left (by omega)] at hy
      exact hx i y hy
    · rw [List.getElem?_append_right (by omega)] at hy
      have : i = n := by
        have := List.getElem?_eq_some_iff.1 hy
        obtain ⟨h1, _⟩ := this
        simp at h1
        omega
      subst this
      rw [hl, Nat.sub_self] at hy
      simp at hy
      subst hy
      exact hq
theorem opens_slice {d : Kd α} {G : α → Prop} (ht : P.underlying t = some (.slice e)) (hsz : P.cellsOf e = d.sz) (hd : Opens P e d G) :
    Opens P t (Kd.slice e d) (fun xs => ∀ x ∈ xs, G x) := by
  intro H enc w base spare held fuel cs y h
  rcases DataW.trod_slice ht h with ⟨hc, _⟩ | ⟨a, len, cap, elems, rest, m, _, hc, _, hb, hl, hm, hn, hel, _⟩
  · exact ⟨[], ⟨none, 0, hc, Nat.le_refl _, Kd.C_nil d w⟩, fun x hx => by simp at hx⟩
  · obtain ⟨xs, hxl, hxs⟩ := exists_list (α := α) (Q := fun i x => ∃ c, c.length = d.sz ∧ d.K w x c ∧ G x ∧ ∀ j u, c[j]? = some u → w.cell? (a.add (i * d.sz + j)) = some u) len (by
      intro i hi
      have := hel i hi
      rw [List.getElem?_eq_getElem (by omega)] at this
      rw [Option.bind_eq_some_iff] at this
      obtain ⟨c, hc1, hc2⟩ := this
      obtain ⟨_, hcl, hcell⟩ := World.cells?_some hc1
      obtain ⟨x, hK, hG⟩ := hd enc w base spare held m c _ hc2
      refine ⟨x, c, by rw [hcl, hsz], hK, hG, fun j u hj => ?_⟩
      have hjl : j < P.cellsOf e := by rw [← hcl]; exact (List.getElem?_eq_some_iff.1 hj).1
      rw [← hsz, ← Go.Addr.add_add, hcell j hjl]
      exact hj)
    subst hxl
    refine ⟨xs, ⟨some a, cap, hc, hl, rfl, ?_, fun _ => ⟨a, rfl, fun j p hj => ?_⟩⟩, fun x hx => ?_⟩
    · unfold maxLen at hm; omega
    · obtain ⟨c, h1, h2, _, h3⟩ := hxs j p hj
      exact ⟨c, h1, h2, h3⟩
    · obtain ⟨i, hi, rfl⟩ := List.getElem_of_mem hx
      obtain ⟨c, _, _, h3, _⟩ := hxs i _ (List.getElem?_eq_getElem hi)
      exact h3
theorem opens_iso {d : Kd α} {G : α → Prop} {f : β → α} {g : α → β} (hfg : ∀ a, f (g a) = a) (hd : Opens P t d G) : Opens P t (Kd.iso d f) (fun b => G (f b)) := by
  intro H enc w base spare held fuel cs y h
  obtain ⟨x, hK, hG⟩ := hd enc w base spare held fuel cs y h
  exact ⟨g x, by show d.K w (f (g x)) cs; rw [hfg]; exact hK, by show G (f (g x)); rw [hfg]; exact hG⟩
theorem opens_mono {d : Kd α} {G G' : α → Prop} (hd : Opens P t d G) (h : ∀ x, G x → G' x) : Opens P t d G' := by
  intro H enc w base spare held fuel cs y hy
  obtain ⟨x, hK, hG⟩ := hd enc w base spare held fuel cs y hy
  exact ⟨x, hK, h x hG⟩
def Fields {α : Type} (P : Program) (off : Nat) (fs : List Field) (d : Kd α) (G : α → Prop) : Prop :=
  ∀ {H : Type} (enc : TypeId × Value → H) (w : World) (base : Nat) (spare : Nat → Bool) (held : Bool) (n : Nat) (cs : List Value) (xs : List (DataW H × List MemPlace)),
    xs.length = fs.length → (∀ (i : Nat) (f : Field), fs[i]? = some f → DataW.trod enc P w base spare held n f.type ((cs.drop f.offset).take (P.cellsOf f.type)) = xs[i]?) → cs.length = off + d.sz → ∃ x, d.K w x (cs.drop off) ∧ G x
theorem fields_one {f : Field} {off : Nat} {d : Kd α} {G : α → Prop} (ho : f.offset = off) (hsz : P.cellsOf f.type = d.sz) (hd : Opens P f.type d G) : Fields P off [f] d G := by
  intro H enc w base spare held n cs xs hl hx hc
  have h0 := hx 0 f rfl
  rw [List.getElem?_eq_getElem (by simp at hl; omega), ho, hsz, List.take_of_length_le (by simp; omega)] at h0
  exact hd enc w base spare held n _ _ h0
theorem fields_cons {f : Field} {fs : List Field} {off : Nat} {d : Kd α} {d' : Kd β} {G : α → Prop} {G' : β → Prop} (ho : f.offset = off) (hsz : P.cellsOf f.type = d.sz) (hd : Opens P f.type d G) (hr : Fields P (off + d.sz) fs d' G') :
    Fields P off (f :: fs) (Kd.pair d d') (fun x => G x.1 ∧ G' x.2) := by
  intro H enc w base spare held n cs xs hl hx hc
  have hc' : cs.length = off + (d.sz + d'.sz) := hc
  have h0 := hx 0 f rfl
  cases xs with
  | nil => simp at hl
  | cons x0 xs =>
    rw [ho, hsz] at h0
    obtain ⟨x, k1, g1⟩ := hd enc w base spare held n _ _ h0
    obtain ⟨y, k2, g2⟩ := hr enc w base spare held n cs xs (by simpa using hl) (fun i f hf => by have := hx (i + 1) f (by simpa using hf); simpa using this) (by omega)
    refine ⟨(x, y), ⟨_, _, ?_, k1, k2⟩, g1, g2⟩
    rw [← List.drop_drop, List.take_append_drop]
theorem opens_struct {fs : Array Field} {d : Kd α} {G : α → Prop} (ht : P.underlying t = some (.struct fs)) (hsz : P.cellsOf t = d.sz) (hf : Fields P 0 fs.toList d G) : Opens P t d G := by
  intro H enc w base spare held fuel cs y h
  obtain ⟨xs, n, _, _, hl, hx, hel⟩ := DataW.trod_struct ht h
  obtain ⟨x, hK, hG⟩ := hf enc w base spare held n cs xs (by simpa using hx) (fun i f hi => hel i f (by simpa using hi)) (by omega)
  exact ⟨x, by simpa using hK, hG⟩
end
end Go.Proofs.Ytfkilcegdajdcaa.Open

namespace Go.Proofs.Ytfkilcegdajdcaa.Open
open Go.Proofs.YtfkilcegdajdcaaW.PrintWords Go.Proofs.Ytfkilcegdajdcaa.PZ
set_option linter.unusedVariables false
set_option maxRecDepth 100000 in
theorem opens67 : Opens Try.prog 67 k67 (fun x => x.f1.size ≤ 9223372036854775807) :=
  opens_mono (opens_iso (g := fun p => ⟨p.1, p.2⟩) (fun _ => rfl) (opens_struct Try.underlying67 (by kernel_rfl) (fields_cons rfl (by kernel_rfl) (opens_int Try.underlying3) (fields_one rfl (by kernel_rfl) (opens_string Try.underlying9))))) (fun _ h => h.2)
set_option maxRecDepth 100000 in
theorem opens41 : Opens Try.prog 41 k41 (fun _ => True) :=
  opens_mono (opens_iso (g := fun p => ⟨p.1, p.2.1, p.2.2⟩) (fun _ => rfl) (opens_struct Try.underlying41 (by kernel_rfl) (fields_cons rfl (by kernel_rfl) (opens_int Try.underlying3) (fields_cons rfl (by kernel_rfl) (opens_int Try.underlying2) (fields_one rfl (by kernel_rfl) (opens_string Try.underlying9)))))) (fun _ _ => trivial)
set_option maxRecDepth 100000 in
theorem opens43 : Opens Try.prog 43 k43 (fun _ => True) :=
  opens_mono (opens_iso (g := fun p => ⟨p.1, p.2⟩) (fun _ => rfl) (opens_struct Try.underlying43 (by kernel_rfl) (fields_cons rfl (by kernel_rfl) (opens_string Try.underlying9) (fields_one rfl (by kernel_rfl) opens41)))) (fun _ _ => trivial)
set_option maxRecDepth 100000 in
theorem opens25 : Opens Try.prog 25 k25 (fun x => x.f0.size ≤ 9223372036854775807) :=
  opens_mono (opens_iso (g := fun p => ⟨p.1, p.2⟩) (fun _ => rfl) (opens_struct Try.underlying25 (by kernel_rfl) (fields_cons rfl (by kernel_rfl) (opens_string Try.underlying9) (fields_one rfl (by kernel_rfl) (opens_slice Try.underlying23 (by kernel_rfl) opens43))))) (fun _ h => h.1)
set_option maxRecDepth 100000 in
theorem opens46 : Opens Try.prog 46 k46 (fun x => x.f1.f0.size ≤ 9223372036854775807 ∧ ∀ q ∈ x.f6, q.f1.size ≤ 9223372036854775807) :=
  opens_mono (opens_iso (g := fun p => ⟨p.1, p.2.1, p.2.2.1, p.2.2.2.1, p.2.2.2.2.1, p.2.2.2.2.2.1, p.2.2.2.2.2.2⟩) (fun _ => rfl) (opens_struct Try.underlying46 (by kernel_rfl) (fields_cons rfl (by kernel_rfl) (opens_int Try.underlying3) (fields_cons rfl (by kernel_rfl) opens25 (fields_cons rfl (by kernel_rfl) (opens_string Try.underlying9) (fields_cons rfl (by kernel_rfl) opens43 (fields_cons rfl (by kernel_rfl) opens43 (fields_cons rfl (by kernel_rfl) opens43 (fields_one rfl (by kernel_rfl) (opens_slice Try.underlying44 (by kernel_rfl) opens67)))))))))) (fun _ h => ⟨h.2.1, h.2.2.2.2.2.2⟩)
set_option maxRecDepth 100000 in
theorem opens39 : Opens Try.prog 39 k39 (fun r => r.f0.f0.size ≤ 9223372036854775807 ∧ ∀ x ∈ r.f2, x.f1.f0.size ≤ 9223372036854775807 ∧ ∀ q ∈ x.f6, q.f1.size ≤ 9223372036854775807) :=
  opens_mono (opens_iso (g := fun p => ⟨p.1, p.2.1, p.2.2⟩) (fun _ => rfl) (opens_struct Try.underlying39 (by kernel_rfl) (fields_cons rfl (by kernel_rfl) opens25 (fields_cons rfl (by kernel_rfl) (opens_int Try.underlying3) (fields_one rfl (by kernel_rfl) (opens_slice Try.underlying37 (by kernel_rfl) opens46)))))) (fun _ h => ⟨h.1, h.2.2⟩)
set_option maxRecDepth 100000 in
theorem opens27 : Opens Try.prog 27 k27 (fun p => (∀ r ∈ p.f0, r.f0.f0.size ≤ 9223372036854775807 ∧ ∀ x ∈ r.f2, x.f1.f0.size ≤ 9223372036854775807 ∧ ∀ q ∈ x.f6, q.f1.size ≤ 9223372036854775807) ∧ p.f1.f0.size ≤ 9223372036854775807) :=
  opens_mono (opens_iso (g := fun p => ⟨p.1, p.2⟩) (fun _ => rfl) (opens_struct Try.underlying27 (by kernel_rfl) (fields_cons rfl (by kernel_rfl) (opens_slice Try.underlying22 (by kernel_rfl) opens39) (fields_one rfl (by kernel_rfl) opens25)))) (fun _ h => h)
end Go.Proofs.Ytfkilcegdajdcaa.Open
