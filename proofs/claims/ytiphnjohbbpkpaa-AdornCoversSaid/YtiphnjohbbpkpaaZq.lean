/- Each demand is covered by one that is left: plain facts; the law's call. -/
import Derived.Test.YtiphnjohbbpkpaaZp
namespace Go.Proofs.YtiphnjohbbpkpaaA
open Go Go.RowKit
set_option linter.all false
set_option linter.unusedSectionVars false
set_option linter.constructorNameAsVariable false
set_option linter.unusedVariables false
def isB (s : ByteArray) (j : Nat) : Bool := decide (((byteAt s j).toNat : Int) = 98)
def nb (s : ByteArray) : Nat := (List.range s.size).countP (isB s)
theorem exists_least {α : Type} (Q : α → Prop) (f : α → Nat) : ∀ (n : Nat) (x : α), Q x → f x ≤ n → ∃ d, Q d ∧ ∀ o, Q o → f d ≤ f o
  | 0, x, hx, hn => ⟨x, hx, fun o _ => by omega⟩
  | n + 1, x, hx, hn => by
    by_cases h : ∃ o, Q o ∧ f o < f x
    · obtain ⟨o, ho, hlt⟩ := h
      exact exists_least Q f n o ho (by omega)
    · exact ⟨x, hx, fun o ho => by
        rcases Nat.lt_or_ge (f o) (f x) with h' | h'
        · exact absurd ⟨o, ho, h'⟩ h
        · exact h'⟩
theorem countP_same {p q : Nat → Bool} : ∀ {l : List Nat}, (∀ x ∈ l, p x = true → q x = true) → l.countP q ≤ l.countP p → ∀ x ∈ l, q x = p x
  | [], _, _, x, hx => by cases hx
  | a :: l, h, hc, x, hx => by
    have hm : l.countP p ≤ l.countP q := List.countP_mono_left fun y hy => h y (by simp [hy])
    have ha := h a (by simp)
    simp only [List.countP_cons] at hc
    have hl : l.countP q ≤ l.countP p ∧ q a = p a := by
      cases hp : p a <;> cases hq : q a <;> simp [hp, hq] at hc ha ⊢ <;> omega
    rcases List.mem_cons.1 hx with rfl | hx
    · exact hl.2
    · exact countP_same (fun y hy => h y (by simp [hy])) hl.1 x hx
theorem bytes_ext {a b : ByteArray} (h : a.size = b.size) (h2 : ∀ j, j < a.size → byteAt a j = byteAt b j) : a = b := by
  apply ByteArray.ext
  apply Array.toList_inj.1
  apply List.ext_getElem
  · simpa using h
  · intro j h3 h4
    have h5 : j < a.size := by simpa using h3
    have := h2 j h5
    unfold byteAt at this
    rwa [List.getD_eq_getElem?_getD, List.getD_eq_getElem?_getD, List.getElem?_eq_getElem h3, List.getElem?_eq_getElem h4] at this
theorem plain_byte {s : ByteArray} (h : plainD s = true) {j : Nat} (hj : j < s.size) : ((byteAt s j).toNat : Int) = 98 ∨ ((byteAt s j).toNat : Int) = 102 := by
  have := List.all_eq_true.1 h j (by simpa using hj)
  simpa [plainB] using this
theorem cov_same {o d : D2} (ho : plainD o.2 = true) (hd : plainD d.2 = true) (hc : covD o d = true) (hn : nb d.2 ≤ nb o.2) : o = d := by
  obtain ⟨h1, h2, h3⟩ := covD_iff.1 hc
  have hs := countP_same (p := isB o.2) (q := isB d.2) (l := List.range o.2.size) (fun x hx hp => by
    have := covB_iff.1 (h3 x (by simpa using hx))
    simp only [isB, decide_eq_true_eq] at hp ⊢
    exact this hp) (by unfold nb at hn; rw [← h2] at hn; exact hn)
  obtain ⟨op, oq⟩ := o
  obtain ⟨dp, dq⟩ := d
  dsimp only at h1 h2 hs ho hd
  subst h1
  congr 1
  refine bytes_ext h2 fun j hj => ?_
  have := hs j (by simpa using hj)
  have a1 := plain_byte ho hj
  have a2 := plain_byte hd (j := j) (by omega)
  apply UInt8.toNat_inj.1
  simp only [isB] at this
  by_cases hb : ((byteAt oq j).toNat : Int) = 98
  · rw [decide_eq_true hb] at this
    have := of_decide_eq_true this
    omega
  · rw [decide_eq_false hb] at this
    have := of_decide_eq_false this
    omega
theorem use_ok (l : List D2) (hf : ∀ x ∈ l, fineD x = true) (x : D2) (hx : x ∈ l) : (useD (pruneD l) x).2 = true ∧ covD (useD (pruneD l) x).1 x = true := by
  have hpl : ∀ x ∈ l, plainD x.2 = true := fun x hx => by
    have := hf x hx
    simp only [fineD, Bool.and_eq_true] at this
    exact this.2
  obtain ⟨d, ⟨hd, hc⟩, hmin⟩ := exists_least (fun d => d ∈ l ∧ covD d x = true) (fun d => nb d.2) _ x ⟨hx, covD_refl x⟩ (Nat.le_refl _)
  have hp : d ∈ pruneD l := by
    refine mem_pruneD.2 ⟨hd, ?_⟩
    rw [← Bool.not_eq_true, List.any_eq_true]
    rintro ⟨o, ho, h⟩
    simp only [pOther, Bool.and_eq_true, Bool.not_eq_true', decide_eq_false_iff_not] at h
    exact h.1 (cov_same (hpl _ ho) (hpl _ hd) h.2 (hmin o ⟨ho, covD_trans h.2 hc⟩))
  unfold useD
  cases h : (pruneD l).findIdx? (fun y => covD y x) with
  | none =>
    have := List.findIdx?_eq_none_iff.1 h d hp
    rw [hc] at this
    cases this
  | some i =>
    obtain ⟨hlt, h1, _⟩ := List.findIdx?_eq_some_iff_getElem.1 h
    refine ⟨rfl, ?_⟩
    simp only [List.getElem?_eq_getElem hlt, Option.getD_some]
    exact h1
theorem covers_call (l : List D2) {x : AV} (hv : LD 22 l x) : ∃ H, arun Try.prog cf 2000 4 [x] [] = some (.sc (.bool true), H) :=
  covers_law l hv (use_ok l) 1999 (by omega) (awake_call false)
end Go.Proofs.YtiphnjohbbpkpaaA
