/- What pruning leaves: plain facts. -/
import Derived.Test.YtiphnjohbbpkpaaZj
namespace Go.Proofs.YtiphnjohbbpkpaaA
open Go Go.RowKit
set_option linter.all false
set_option linter.unusedSectionVars false
set_option linter.constructorNameAsVariable false
set_option linter.unusedVariables false
theorem mem_pruneTo {l : List D2} {d : D2} : ∀ j, j ≤ l.length → (d ∈ pruneTo l j ↔ d ∈ l.take j ∧ l.any (pOther d) = false)
  | 0, _ => by simp [pruneTo]
  | j + 1, h => by
    have hj : j < l.length := by omega
    have ih := mem_pruneTo (l := l) (d := d) j (by omega)
    rw [pruneTo_succ hj, List.take_succ_eq_append_getElem hj]
    unfold pruneStep
    split
    · rename_i hc
      simp only [Bool.and_eq_true, Bool.not_eq_true'] at hc
      rw [List.mem_append, List.mem_append, ih, List.mem_singleton]
      constructor
      · rintro (⟨h1, h2⟩ | rfl)
        · exact ⟨.inl h1, h2⟩
        · exact ⟨.inr rfl, hc.2⟩
      · rintro ⟨h1 | h1, h2⟩
        · exact .inl ⟨h1, h2⟩
        · exact .inr h1
    · rename_i hc
      rw [List.mem_append, ih, List.mem_singleton]
      constructor
      · rintro ⟨h1, h2⟩
        exact ⟨.inl h1, h2⟩
      · rintro ⟨h1 | h1, h2⟩
        · exact ⟨h1, h2⟩
        · subst h1
          rw [h2] at hc
          simp only [Bool.not_false, Bool.and_true, Bool.not_eq_true', Bool.not_eq_false] at hc
          exact ih.1 (inD_t.1 hc)
theorem mem_pruneD {l : List D2} {d : D2} : d ∈ pruneD l ↔ d ∈ l ∧ l.any (pOther d) = false := by
  rw [← pruneTo_all, mem_pruneTo _ (Nat.le_refl _), List.take_length]
theorem nodup_pruneTo {l : List D2} : ∀ j, j ≤ l.length → (pruneTo l j).Nodup
  | 0, _ => by simp [pruneTo]
  | j + 1, h => by
    have hj : j < l.length := by omega
    have ih := nodup_pruneTo (l := l) j (by omega)
    rw [pruneTo_succ hj]
    unfold pruneStep
    split
    · rename_i hc
      simp only [Bool.and_eq_true, Bool.not_eq_true'] at hc
      rw [List.nodup_append]
      refine ⟨ih, by simp, fun a ha b hb => ?_⟩
      rw [List.mem_singleton] at hb
      subst hb
      rintro rfl
      have := inD_t.2 ha
      rw [hc.1] at this
      cases this
    · exact ih
theorem nodup_pruneD (l : List D2) : (pruneD l).Nodup := by rw [← pruneTo_all]; exact nodup_pruneTo _ (Nat.le_refl _)
/-- Pruned again it stays. -/
theorem pruneTo_stay {l : List D2} (hn : l.Nodup) (ha : ∀ d ∈ l, l.any (pOther d) = false) : ∀ j, j ≤ l.length → pruneTo l j = l.take j
  | 0, _ => by simp [pruneTo]
  | j + 1, h => by
    have hj : j < l.length := by omega
    rw [pruneTo_succ hj, pruneTo_stay hn ha j (by omega), List.take_succ_eq_append_getElem hj]
    unfold pruneStep
    have h1 : inD (l.take j) l[j] = false := inD_f (fun hm => by
      obtain ⟨i, hi, e⟩ := List.mem_iff_getElem.1 hm
      rw [List.length_take] at hi
      rw [List.getElem_take] at e
      have := (List.getElem_inj hn).1 e
      omega)
    rw [h1, ha _ (List.getElem_mem hj)]
    rfl
theorem pruneD_twice (l : List D2) : pruneD (pruneD l) = pruneD l := by
  rw [← pruneTo_all (pruneD l), pruneTo_stay (nodup_pruneD l) (fun d hd => ?_) _ (Nat.le_refl _), List.take_length]
  have h := (mem_pruneD.1 hd).2
  rw [← Bool.not_eq_true, List.any_eq_true] at h ⊢
  rintro ⟨x, hx, hp⟩
  exact h ⟨x, (mem_pruneD.1 hx).1, hp⟩
/-- None of what is left covers another one. -/
theorem pruneD_apart {l : List D2} {x d : D2} (hx : x ∈ pruneD l) (hd : d ∈ pruneD l) (hne : ¬ x = d) : covD x d = false := by
  have h := (mem_pruneD.1 hd).2
  rw [← Bool.not_eq_true, List.any_eq_true] at h
  rw [← Bool.not_eq_true]
  intro hc
  exact h ⟨x, (mem_pruneD.1 hx).1, by simp [pOther, hne, hc]⟩
theorem covD_iff {a b : D2} : covD a b = true ↔ a.1 = b.1 ∧ a.2.size = b.2.size ∧ ∀ j, j < a.2.size → covB a b j = true := by
  simp only [covD, Bool.and_eq_true, decide_eq_true_eq, List.all_eq_true, List.mem_range, and_assoc]
theorem covB_iff {a b : D2} {j : Nat} : covB a b j = true ↔ (((byteAt a.2 j).toNat : Int) = 98 → ((byteAt b.2 j).toNat : Int) = 98) := by
  simp only [covB, Bool.not_eq_true', Bool.and_eq_false_iff, decide_eq_false_iff_not, Bool.not_eq_false', decide_eq_true_eq]
  constructor
  · rintro (h | h) h1
    · exact absurd h1 h
    · exact h
  · intro h
    by_cases h1 : ((byteAt a.2 j).toNat : Int) = 98
    · exact .inr (h h1)
    · exact .inl h1
theorem covD_refl (a : D2) : covD a a = true := covD_iff.2 ⟨rfl, rfl, fun j _ => covB_iff.2 id⟩
theorem covD_trans {a b c : D2} (h : covD a b = true) (k : covD b c = true) : covD a c = true := by
  obtain ⟨h1, h2, h3⟩ := covD_iff.1 h
  obtain ⟨k1, k2, k3⟩ := covD_iff.1 k
  exact covD_iff.2 ⟨h1.trans k1, h2.trans k2, fun j hj => covB_iff.2 fun e => covB_iff.1 (k3 j (by omega)) (covB_iff.1 (h3 j hj) e)⟩
end Go.Proofs.YtiphnjohbbpkpaaA
