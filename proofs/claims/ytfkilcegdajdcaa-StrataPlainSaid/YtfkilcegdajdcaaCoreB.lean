
/- comps.Comps as a plain function: its components are those of mutual reach, numbered as the document says. -/
import Derived.Test.YtfkilcegdajdcaaPZx2
import Derived.Test.YtfkilcegdajdcaaCoreA
namespace Go.Proofs.Ytfkilcegdajdcaa.Core
open Go.RowKit Go.Proofs.Ytfkilcegdajdcaa.PZ Go.Proofs.YtfkilcegdajdcaaW.PrintWords Go.Proofs.YtfkilcegdajdcaaW.PrintLast Go.Proofs.YtfkilcegdajdcaaW.PrintMore
set_option linter.unusedVariables false
set_option linter.unusedSimpArgs false
theorem rd_set (xs : List Int) (j i : Nat) (v : Int) (hj : j < xs.length) : rd (xs.set j v) (i : Int) = if i = j then v else rd xs i := by
  unfold rd
  rw [Int.toNat_natCast, List.getD_eq_getElem?_getD, List.getElem?_set]
  by_cases e : j = i
  · subst e; simp [hj]
  · rw [if_neg e, if_neg (fun h => e h.symm), List.getD_eq_getElem?_getD]
theorem rd_at (xs : List Int) (i : Nat) (h : i < xs.length) : rd xs (i : Int) = xs[i] := by unfold rd; rw [Int.toNat_natCast, getD_at _ _ _ h]
theorem rd_rep (n : Nat) (v : Int) (i : Nat) (h : i < n) : rd (List.replicate n v) (i : Int) = v := by rw [rd_at _ _ (by simpa using h)]; simp
theorem count_setI (xs : List Int) (j : Nat) (v : Int) (hj : j < xs.length) (h : rd xs (j : Int) = -1) (hv : v ≠ -1) : (xs.set j v).count (-1) + 1 = xs.count (-1) := by
  induction xs generalizing j with
  | nil => simp at hj
  | cons b bs ih =>
    cases j with
    | zero =>
      have : b = -1 := by simpa [rd] using h
      subst this
      simp [List.count_cons, hv]
    | succ j =>
      have := ih j (by simpa using hj) (by rw [rd_at _ _ (by simpa using hj)]; rw [rd_at _ _ hj] at h; simpa using h)
      rw [List.set_cons_succ, List.count_cons, List.count_cons]
      omega
theorem count_pos (xs : List Int) (h : 0 < xs.count (-1)) : ∃ q, q < xs.length ∧ rd xs (q : Int) = -1 := by
  have := List.count_pos_iff.1 h
  obtain ⟨q, hq, e⟩ := List.getElem_of_mem this
  exact ⟨q, hq, by rw [rd_at _ _ hq]; exact e⟩
def Mut (E : Nat → Nat → Prop) (i j : Nat) : Prop := R E i j ∧ R E j i
theorem Mut.symm {E : Nat → Nat → Prop} {i j : Nat} (h : Mut E i j) : Mut E j i := ⟨h.2, h.1⟩
theorem Mut.refl (E : Nat → Nat → Prop) (i : Nat) : Mut E i i := ⟨.refl, .refl⟩
theorem Mut.trans {E : Nat → Nat → Prop} {i j k : Nat} (h : Mut E i j) (h' : Mut E j k) : Mut E i k := ⟨h.1.trans h'.1, h'.2.trans h.2⟩
def Free (N : Nat) (E : Nat → Nat → Prop) (of : Nat → Int) (j : Nat) (m : Int) : Prop := m ≤ of j ∧ ∀ k, k < N → R E j k → R E k j ∨ of k < m
structure Good (N : Nat) (E : Nat → Nat → Prop) (of : Nat → Int) : Prop where
  cls : ∀ i j, i < N → j < N → (of i = of j ↔ Mut E i j)
  nn : ∀ i, i < N → 0 ≤ of i
  first : ∀ i, i < N → ∃ b, b < N ∧ of b = of i ∧ Free N E of b (of i) ∧ ∀ j, j < b → ¬ Free N E of j (of i)
  full : ∀ i, i < N → ∀ m : Int, 0 ≤ m → m < of i → ∃ j, j < N ∧ of j = m
theorem Good.unique {N : Nat} {E : Nat → Nat → Prop} {f g : Nat → Int} (hf : Good N E f) (hg : Good N E g) : ∀ i, i < N → f i = g i := by
  have key : ∀ m : Nat, ∀ i, i < N → (f i = m ↔ g i = m) := by
    intro m
    induction m using Nat.strongRecOn with
    | _ m ih =>
      have hlt : ∀ i, i < N → (f i < m ↔ g i < m) := by
        intro i hi
        have h1 := hf.nn i hi
        have h2 := hg.nn i hi
        constructor
        · intro h; have := (ih (f i).toNat (by omega) i hi).1 (by omega); omega
        · intro h; have := (ih (g i).toNat (by omega) i hi).2 (by omega); omega
      have hfree : ∀ j, j < N → (Free N E f j m ↔ Free N E g j m) := by
        intro j hj
        unfold Free
        have := hlt j hj
        constructor
        · rintro ⟨h1, h2⟩
          refine ⟨by omega, fun k hk hr => (h2 k hk hr).imp id fun h => (hlt k hk).1 h⟩
        · rintro ⟨h1, h2⟩
          refine ⟨by omega, fun k hk hr => (h2 k hk hr).imp id fun h => (hlt k hk).2 h⟩
      have one : ∀ (f g : Nat → Int), Good N E f → Good N E g → (∀ i, i < N → (f i < m ↔ g i < m)) → (∀ j, j < N → (Free N E f j m ↔ Free N E g j m)) → ∀ i, i < N → f i = m → g i = m := by
        intro f g hf hg hlt hfree i hi hm
        obtain ⟨b, hb, hbm, hbf, hbl⟩ := hf.first i hi
        rw [hm] at hbm hbf hbl
        have hgi : (m : Int) ≤ g i := by have := hlt i hi; omega
        obtain ⟨j, hj, hjm⟩ : ∃ j, j < N ∧ g j = m := by
          by_cases e : g i = m
          · exact ⟨i, hi, e⟩
          · exact hg.full i hi m (by omega) (by omega)
        obtain ⟨b', hb', hbm', hbf', hbl'⟩ := hg.first j hj
        rw [hjm] at hbm' hbf' hbl'
        have e : b = b' := by
          rcases Nat.lt_trichotomy b b' with h | h | h
          · exact absurd ((hfree b hb).1 hbf) (hbl' b h)
          · exact h
          · exact absurd ((hfree b' hb').2 hbf') (hbl b' h)
        subst e
        have h1 := (hf.cls b i hb hi).1 (by rw [hbm, hm])
        have h2 := (hg.cls b i hb hi).2 h1
        rw [← h2, hbm']
      intro i hi
      exact ⟨one f g hf hg hlt hfree i hi, one g f hg hf (fun i hi => (hlt i hi).symm) (fun j hj => (hfree j hj).symm) i hi⟩
  intro i hi
  have h := hf.nn i hi
  have := (key (f i).toNat i hi).1 (by omega)
  omega
theorem Good.down {N : Nat} {E : Nat → Nat → Prop} {f : Nat → Int} (hf : Good N E f) {i k : Nat} (hi : i < N) (hk : k < N) (h : R E i k) : f k ≤ f i := by
  obtain ⟨b, hb, hbm, hbf, _⟩ := hf.first i hi
  have hm := (hf.cls b i hb hi).1 hbm
  rcases hbf.2 k hk (hm.1.trans h) with h1 | h1
  · have := (hf.cls b k hb hk).2 ⟨hm.1.trans h, h1⟩
    omega
  · omega
theorem idxO_spec (p : Int → Option Bool) : ∀ (xs : List Int) (j : Nat), (∀ x ∈ xs, ∃ b, p x = some b) → ∃ i, idxO p xs j = some i ∧ (i ≥ 0 ↔ ∃ x ∈ xs, p x = some true) ∧ (i < 0 → i = -1)
  | [], j, _ => ⟨-1, rfl, by simp, fun _ => rfl⟩
  | x :: xs, j, h => by
    obtain ⟨b, hb⟩ := h x (by simp)
    obtain ⟨i, hi, h1, h2⟩ := idxO_spec p xs (j + 1) fun y hy => h y (by simp [hy])
    simp only [idxO, hb, Option.bind_some]
    cases b with
    | true => exact ⟨j, by simp, by simp [hb], fun h => by omega⟩
    | false =>
      refine ⟨i, by simp [hi], ?_, h2⟩
      rw [h1]
      simp [hb]
theorem anyO_spec (p : Int → Option Bool) (xs : List Int) (h : ∀ x ∈ xs, ∃ b, p x = some b) : ∃ b, anyO p xs = some b ∧ (b = true ↔ ∃ x ∈ xs, p x = some true) := by
  obtain ⟨i, hi, h1, _⟩ := idxO_spec p xs 0 h
  exact ⟨decide (i ≥ 0), by unfold anyO; rw [hi]; rfl, by rw [decide_eq_true_iff]; exact h1⟩
theorem cnt_lt (p q : Nat → Bool) : ∀ N, (∀ x, x < N → p x = true → q x = true) → (∃ x, x < N ∧ q x = true ∧ p x = false) → (List.range N).countP p < (List.range N).countP q
  | 0, _, ⟨x, hx, _⟩ => by omega
  | N + 1, h, ⟨x, hx, h1, h2⟩ => by
    rw [List.range_succ, List.countP_append, List.countP_append, List.countP_singleton, List.countP_singleton]
    have hle : (List.range N).countP p ≤ (List.range N).countP q := List.countP_mono_left fun y hy hp => h y (by rw [List.mem_range] at hy; omega) hp
    by_cases e : x = N
    · subst e
      rw [h1, h2]
      simp
      omega
    · have := cnt_lt p q N (fun y hy => h y (by omega)) ⟨x, by omega, h1, h2⟩
      have hN := h N (by omega)
      cases hp : p N with
      | true => rw [hN hp]; simp; omega
      | false => simp; split <;> omega
end Go.Proofs.Ytfkilcegdajdcaa.Core
