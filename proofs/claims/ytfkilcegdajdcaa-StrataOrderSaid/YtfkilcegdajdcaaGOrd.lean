
/- Strings in order, each once: a plain Lean function, and that sorting and then compacting comes to it. -/
import Derived.Lib.SlicesCompact
import Derived.Sort.EncStr
namespace Go.Proofs.Ytfkilcegdajdcaa.Ord
open Go.Sort
set_option linter.unusedVariables false
def ins {α : Type} (lt : α → α → Bool) (x : α) : List α → List α
  | [] => [x]
  | y :: t => if lt x y = true then x :: y :: t else if lt y x = true then y :: ins lt x t else y :: t
def nsort {α : Type} (lt : α → α → Bool) (l : List α) : List α := l.foldr (ins lt) []
structure Lin {α : Type} (lt : α → α → Bool) : Prop where
  irr : ∀ x, lt x x = false
  tr : ∀ x y z, lt x y = true → lt y z = true → lt x z = true
  tot : ∀ x y, lt x y = false → lt y x = false → x = y
abbrev Up {α : Type} (lt : α → α → Bool) (l : List α) : Prop := l.Pairwise (fun x y => lt x y = true)
section
variable {α : Type} {lt : α → α → Bool} (L : Lin lt)
include L
theorem ins_mem (x : α) : ∀ (l : List α) (z : α), z ∈ ins lt x l ↔ z = x ∨ z ∈ l
  | [], z => by simp [ins]
  | y :: t, z => by
    unfold ins
    split
    · simp
    · split
      · rw [List.mem_cons, ins_mem x t z, List.mem_cons]
        constructor
        · rintro (h | h | h)
          · exact .inr (.inl h)
          · exact .inl h
          · exact .inr (.inr h)
        · rintro (h | h | h)
          · exact .inr (.inl h)
          · exact .inl h
          · exact .inr (.inr h)
      · rename_i h1 h2
        have e : x = y := L.tot x y (by simpa using h1) (by simpa using h2)
        subst e
        rw [List.mem_cons]
        constructor
        · exact .inr
        · rintro (h | h)
          · exact .inl h
          · exact h
theorem ins_up (x : α) : ∀ (l : List α), Up lt l → Up lt (ins lt x l)
  | [], _ => by simp [ins]
  | y :: t, h => by
    have h' := List.pairwise_cons.1 h
    unfold ins
    split
    · rename_i h1
      refine List.pairwise_cons.2 ⟨fun z hz => ?_, h⟩
      rcases List.mem_cons.1 hz with rfl | hz
      · exact h1
      · exact L.tr _ _ _ h1 (h'.1 z hz)
    · split
      · rename_i h1 h2
        refine List.pairwise_cons.2 ⟨fun z hz => ?_, ins_up x t h'.2⟩
        rcases (ins_mem L x t z).1 hz with rfl | hz
        · exact h2
        · exact h'.1 z hz
      · exact h
theorem nsort_mem (l : List α) (z : α) : z ∈ nsort lt l ↔ z ∈ l := by
  induction l with
  | nil => simp [nsort]
  | cons x l ih =>
    show z ∈ ins lt x (nsort lt l) ↔ _
    rw [ins_mem L, ih, List.mem_cons]
theorem nsort_up (l : List α) : Up lt (nsort lt l) := by
  induction l with
  | nil => exact List.Pairwise.nil
  | cons x l ih => exact ins_up L x _ ih
theorem up_eq : ∀ (a b : List α), Up lt a → Up lt b → (∀ z, z ∈ a ↔ z ∈ b) → a = b
  | [], [], _, _, _ => rfl
  | [], y :: t, _, _, h => by have := (h y).2 (by simp); simp at this
  | x :: s, [], _, _, h => by have := (h x).1 (by simp); simp at this
  | x :: s, y :: t, ha, hb, h => by
    have ha' := List.pairwise_cons.1 ha
    have hb' := List.pairwise_cons.1 hb
    have e : x = y := by
      rcases List.mem_cons.1 ((h x).1 (by simp)) with e | e
      · exact e
      · rcases List.mem_cons.1 ((h y).2 (by simp)) with e2 | e2
        · exact e2.symm
        · have h1 := hb'.1 x e
          have h2 := ha'.1 y e2
          have := L.tr _ _ _ h1 h2
          rw [L.irr] at this
          cases this
    subst e
    congr 1
    refine up_eq s t ha'.2 hb'.2 fun z => ⟨fun hz => ?_, fun hz => ?_⟩
    · rcases List.mem_cons.1 ((h z).1 (List.mem_cons_of_mem _ hz)) with e | e
      · subst e
        have := ha'.1 z hz
        rw [L.irr] at this
        cases this
      · exact e
    · rcases List.mem_cons.1 ((h z).2 (List.mem_cons_of_mem _ hz)) with e | e
      · subst e
        have := hb'.1 z hz
        rw [L.irr] at this
        cases this
      · exact e
omit L in
theorem nsort_len_le (l : List α) : (nsort lt l).length ≤ l.length := by
  induction l with
  | nil => exact Nat.le_refl _
  | cons x l ih =>
    show (ins lt x (nsort lt l)).length ≤ _
    have : ∀ (m : List α), (ins lt x m).length ≤ m.length + 1 := by
      intro m
      induction m with
      | nil => simp [ins]
      | cons y t iht =>
        unfold ins
        split
        · simp
        · split
          · simp only [List.length_cons]; omega
          · simp
    have := this (nsort lt l)
    simp only [List.length_cons]
    omega
theorem compact_up [Inhabited α] [DecidableEq α] (d : Array α) (hs : ∀ i j, i < j → j < d.size → lt d[j]! d[i]! = false) : ∀ m, m ≤ d.size → Up lt (Lib.compactUpTo d m) ∧ (∀ z ∈ Lib.compactUpTo d m, ∃ i, i < m ∧ z = d[i]!) ∧ (∀ i, i < m → d[i]! ∈ Lib.compactUpTo d m)
  | 0, _ => ⟨by simp [Lib.compactUpTo], by simp [Lib.compactUpTo], fun i hi => absurd hi (Nat.not_lt_zero _)⟩
  | m + 1, hm => by
    obtain ⟨h1, h2, h3⟩ := compact_up d hs m (by omega)
    rw [Lib.compactUpTo_succ]
    by_cases hk : Lib.keeps d m = true
    · rw [if_pos hk]
      refine ⟨List.pairwise_append.2 ⟨h1, by simp, ?_⟩, ?_, ?_⟩
      · intro x hx y hy
        obtain ⟨i, hi, rfl⟩ := h2 x hx
        obtain rfl := List.mem_singleton.1 hy
        have hm0 : d[m]! ≠ d[m - 1]! := by
          have := hk
          unfold Lib.keeps at this
          have := of_decide_eq_true this
          rcases this with h | h
          · omega
          · exact h
        have ha := hs i m hi (by omega)
        cases hb : lt d[i]! d[m]! with
        | true => rfl
        | false =>
          exfalso
          have e := L.tot _ _ hb ha
          by_cases hi1 : i = m - 1
          · subst hi1; exact hm0 e.symm
          · have hc := hs i (m - 1) (by omega) (by omega)
            have hd := hs (m - 1) m (by omega) (by omega)
            rw [e] at hc
            exact hm0 (L.tot _ _ hd hc)
      · intro z hz
        rcases List.mem_append.1 hz with hz | hz
        · obtain ⟨i, hi, e⟩ := h2 z hz
          exact ⟨i, by omega, e⟩
        · exact ⟨m, by omega, List.mem_singleton.1 hz⟩
      · intro i hi
        by_cases e : i = m
        · subst e; simp
        · exact List.mem_append_left _ (h3 i (by omega))
    · rw [if_neg hk, List.append_nil]
      refine ⟨h1, fun z hz => ?_, fun i hi => ?_⟩
      · obtain ⟨i, hi, e⟩ := h2 z hz
        exact ⟨i, by omega, e⟩
      · by_cases e : i = m
        · subst e
          have : ¬ (i = 0 ∨ d[i]! ≠ d[i - 1]!) := by
            intro h
            exact hk (by unfold Lib.keeps; exact decide_eq_true h)
          have h0 : i ≠ 0 := fun h => this (.inl h)
          have h1' : d[i]! = d[i - 1]! := Decidable.of_not_not fun h => this (.inr h)
          rw [h1']
          exact h3 (i - 1) (by omega)
        · exact h3 i (by omega)
theorem compact_sorted [Inhabited α] [DecidableEq α] (zs : List α) (hs : zs.Pairwise (fun x y => lt y x = false)) : Lib.compact zs = nsort lt zs := by
  have hp : ∀ i j, i < j → j < zs.toArray.size → lt zs.toArray[j]! zs.toArray[i]! = false := by
    intro i j hij hj
    have hj' : j < zs.length := by simpa using hj
    have := List.pairwise_iff_getElem.1 hs i j (by omega) hj' hij
    rw [getElem!_pos _ j (by simpa using hj'), getElem!_pos _ i (by simp; omega)]
    simpa using this
  obtain ⟨h1, h2, h3⟩ := compact_up L zs.toArray hp zs.length (by simp)
  refine up_eq L _ _ h1 (nsort_up L zs) fun z => ?_
  rw [nsort_mem L]
  constructor
  · intro hz
    obtain ⟨i, hi, rfl⟩ := h2 z hz
    rw [getElem!_pos _ i (by simpa using hi)]
    simp
  · intro hz
    obtain ⟨i, hi, rfl⟩ := List.getElem_of_mem hz
    have := h3 i hi
    rw [getElem!_pos _ i (by simpa using hi)] at this
    show _ ∈ Lib.compactUpTo _ _
    simpa using this
theorem nsort_congr {l m : List α} (h : ∀ z, z ∈ l ↔ z ∈ m) : nsort lt l = nsort lt m :=
  up_eq L _ _ (nsort_up L l) (nsort_up L m) fun z => by rw [nsort_mem L, nsort_mem L, h]
end
def ltL (a b : List UInt8) : Bool := decide (a < b)
theorem linL : Lin ltL where
  irr x := decide_eq_false (List.lt_irrefl x)
  tr x y z h1 h2 := decide_eq_true (List.lt_trans (of_decide_eq_true h1) (of_decide_eq_true h2))
  tot x y h1 h2 := List.le_antisymm (List.not_lt.1 (of_decide_eq_false h2)) (List.not_lt.1 (of_decide_eq_false h1))
def ltS (a b : ByteArray) : Bool := ltL a.data.toList b.data.toList
theorem bytes_ext {a b : ByteArray} (h : a.data.toList = b.data.toList) : a = b := by
  cases a; cases b
  congr 1
  exact Array.toList_inj.1 h
theorem linS : Lin ltS where
  irr x := linL.irr _
  tr x y z := linL.tr _ _ _
  tot x y h1 h2 := bytes_ext (linL.tot _ _ h1 h2)
def sorted (l : List ByteArray) : List ByteArray := nsort ltS l
def bs (l : List ByteArray) : List (List UInt8) := l.map fun b => b.data.toList
theorem bs_sorted (l : List ByteArray) : bs (sorted l) = nsort ltL (bs l) := by
  refine up_eq linL _ _ ?_ (nsort_up linL _) fun z => ?_
  · exact List.pairwise_map.2 (nsort_up linS l)
  · rw [nsort_mem linL]
    unfold bs
    simp only [List.mem_map]
    constructor
    · rintro ⟨b, hb, rfl⟩
      exact ⟨b, (nsort_mem linS l b).1 hb, rfl⟩
    · rintro ⟨b, hb, rfl⟩
      exact ⟨b, (nsort_mem linS l b).2 hb, rfl⟩
theorem sort_compact (l : List ByteArray) : Lib.compact ((bs l).mergeSort fun x y => decide (x ≤ y)) = bs (sorted l) := by
  rw [bs_sorted, compact_sorted linL]
  · exact nsort_congr linL fun z => by rw [List.mem_mergeSort]
  · have := List.pairwise_mergeSort (le := fun (x y : List UInt8) => decide (x ≤ y)) (fun a b c h1 h2 => decide_eq_true (List.le_trans (of_decide_eq_true h1) (of_decide_eq_true h2)))
      (fun a b => by
        rcases List.le_total a b with h | h
        · simp [h]
        · simp [h]) (bs l)
    exact this.imp fun h => decide_eq_false (List.not_lt.2 (of_decide_eq_true h))
end Go.Proofs.Ytfkilcegdajdcaa.Ord
