/- A part of the proof of StrataFewer: functions of the program, run by the evaluator. -/

/- A program without one of its rules: its names, and what is wrong with it. -/
import Derived.Test.YtigfnhbbfbnicaaN37
import Derived.Test.YtigfnhbbfbnicaaSN1
namespace Go.Proofs.YtigfnhbbfbnicaaA
open Go Go.RowKit
set_option linter.all false
set_option linter.unusedSectionVars false
set_option linter.constructorNameAsVariable false
set_option linter.unusedVariables false
set_option linter.unusedSimpArgs false
theorem nodup_len {α : Type} [DecidableEq α] {out u : List α} (hn : out.Nodup) (hs : ∀ d ∈ out, d ∈ u) : out.length ≤ u.length := by
  induction out generalizing u with
  | nil => simp
  | cons x out ih =>
    rw [List.nodup_cons] at hn
    have hx := hs x (by simp)
    have h1 := ih (u := u.filter fun y => !decide (y = x)) hn.2 fun d hd => by
      rw [List.mem_filter]
      refine ⟨hs d (by simp [hd]), ?_⟩
      rw [Bool.not_eq_true', decide_eq_false_iff_not]
      intro e
      subst e
      exact hn.1 hd
    have h2 : (u.filter fun y => !decide (y = x)).length < u.length := by
      rw [List.length_filter_lt_length_iff_exists]
      exact ⟨x, hx, by simp⟩
    rw [List.length_cons]
    omega
theorem upS_nodup {l : List ByteArray} (h : Ord.Up Ord.ltS l) : l.Nodup := by
  unfold List.Nodup
  refine List.Pairwise.imp (fun {a b} hab e => ?_) h
  subst e
  rw [Ord.linS.irr] at hab
  cases hab
theorem needsE_mem {p : ProgT} {a b : Nat} : (a, b) ∈ needsE p ↔ ∃ r ∈ p.rules, ∃ l ∈ r.body, ∃ s ∈ usesT l, a = posS (namesT p) r.head.p ∧ b = posS (namesT p) s := by
  constructor
  · intro h
    unfold needsE at h
    obtain ⟨z, hz, e⟩ := List.mem_map.1 h
    obtain ⟨r, hr, l, hl, s, hs, rfl⟩ := needsT_at hz
    simp only [Int.toNat_natCast, Prod.mk.injEq] at e
    exact ⟨r, hr, l, hl, s, hs, e.1.symm, e.2.symm⟩
  · rintro ⟨r, hr, l, hl, s, hs, rfl, rfl⟩
    unfold needsE
    refine List.mem_map.2 ⟨((posS (namesT p) r.head.p : Int), (posS (namesT p) s : Int)), ?_, by simp⟩
    refine (Ord.nsort_mem linP2 _ _).2 ?_
    unfold rawN rawR eachL
    refine List.mem_flatMap.2 ⟨r, hr, List.mem_map.2 ⟨(l, s), List.mem_flatMap.2 ⟨l, hl, List.mem_map.2 ⟨s, hs, rfl⟩⟩, rfl⟩⟩
section
variable {q p : ProgT} (hq : q.query = p.query) (hr : ∀ r ∈ q.rules, r ∈ p.rules)
include hq hr
theorem names_sub : ∀ s ∈ namesT q, s ∈ namesT p := fun s hs => by
  have h := (Ord.nsort_mem Ord.linS _ _).1 hs
  refine (Ord.nsort_mem Ord.linS _ _).2 ?_
  simp only [allN, List.mem_cons, List.mem_flatMap] at h ⊢
  rcases h with h | ⟨r, h1, h2⟩
  · exact .inl (by rw [h, hq])
  · exact .inr ⟨r, hr r h1, h2⟩
theorem names_le : (namesT q).length ≤ (namesT p).length := nodup_len (upS_nodup (namesT_up q)) (names_sub hq hr)
theorem rch_sub {a b : Nat} (h : Rch (adjN (needsE q)) a b) : ∀ s ∈ namesT q, a = posS (namesT q) s → ∃ t ∈ namesT q, b = posS (namesT q) t ∧ Rch (adjN (needsE p)) (posS (namesT p) s) (posS (namesT p) t) := by
  intro s hs ha
  induction h with
  | refl => exact ⟨s, hs, ha, .refl⟩
  | step _ hc ih =>
    obtain ⟨t, ht, hb, hR⟩ := ih
    obtain ⟨r, hr1, l, hl, u, hu, e1, e2⟩ := needsE_mem.1 (adjN_mem.1 hc)
    have htr : t = r.head.p := by
      obtain ⟨h1, h2⟩ := posS_mem (namesT_up q) ht
      obtain ⟨h3, h4⟩ := posS_mem (namesT_up q) (head_named hr1)
      have e : posS (namesT q) t = posS (namesT q) r.head.p := by omega
      rw [← h2, ← h4]
      simp only [e]
    refine ⟨u, uses_named hr1 hl hu, e2, .step hR (adjN_mem.2 (needsE_mem.2 ⟨r, hr r hr1, l, hl, u, hu, by rw [htr], rfl⟩))⟩
theorem same_sub {s t : ByteArray} (hs : s ∈ namesT q) (ht : t ∈ namesT q) (h : sameP q s t) : sameP p s t := by
  have inj : ∀ u, u ∈ namesT q → ∀ v, v ∈ namesT q → posS (namesT q) u = posS (namesT q) v → u = v := fun u hu v hv e => by
    obtain ⟨h1, h2⟩ := posS_mem (namesT_up q) hu
    obtain ⟨h3, h4⟩ := posS_mem (namesT_up q) hv
    rw [← h2, ← h4]
    simp only [e]
  obtain ⟨t', ht', e1, r1⟩ := rch_sub hq hr h.1 s hs rfl
  obtain ⟨s', hs', e2, r2⟩ := rch_sub hq hr h.2 t ht rfl
  obtain rfl := inj t ht t' ht' e1
  obtain rfl := inj s hs s' hs' e2
  exact ⟨r1, r2⟩
theorem eachL_named {r : RuleT} (h : r ∈ q.rules) {x : LitT × ByteArray} (hx : x ∈ eachL r.body) : x.2 ∈ namesT q := by
  unfold eachL at hx
  obtain ⟨l, hl, hx⟩ := List.mem_flatMap.1 hx
  obtain ⟨s, hs, rfl⟩ := List.mem_map.1 hx
  exact uses_named h hl hs
theorem bad_sub (h : BadP q) : BadP p := by
  obtain ⟨r, h1, x, h2, h3, h4⟩ := h
  exact ⟨r, hr r h1, x, h2, same_sub hq hr (eachL_named hq hr h1 h2) (head_named h1) h3, h4⟩
theorem cyc_sub (h : CycP q) : CycP p := by
  obtain ⟨r, h1, x, h2, h3, h4⟩ := h
  exact ⟨r, hr r h1, x, h2, same_sub hq hr (eachL_named hq hr h1 h2) (head_named h1) h3, h4⟩
theorem strE_sub (h : strE p = 0) : strE q = 0 := by
  unfold strE at h ⊢
  by_cases hb : BadP p
  · rw [if_pos hb] at h; cases h
  · rw [if_neg hb] at h
    by_cases hc : CycP p
    · rw [if_pos hc] at h; cases h
    · rw [if_neg (fun x => hb (bad_sub hq hr x)), if_neg (fun x => hc (cyc_sub hq hr x))]
end
def lessP (p : ProgT) (j : Nat) : ProgT := ⟨p.rules.take j ++ p.rules.drop (j + 1), p.query⟩
theorem lessP_sub (p : ProgT) (j : Nat) : ∀ r ∈ (lessP p j).rules, r ∈ p.rules := fun r h => by
  rcases List.mem_append.1 h with h | h
  · exact List.mem_of_mem_take h
  · exact List.mem_of_mem_drop h
end Go.Proofs.YtigfnhbbfbnicaaA
