/- AdornMore, run: two patterns of an atom, how they cover each other. -/
import Derived.Test.YtiphnjohbbpkpaaE2
namespace Go.Proofs.YtiphnjohbbpkpaaA
open Go Go.RowKit
set_option linter.all false
set_option linter.unusedSectionVars false
set_option linter.constructorNameAsVariable false
set_option linter.unusedVariables false
set_option linter.unusedSimpArgs false
theorem bytes_ext {a b : ByteArray} (h : a.size = b.size) (h2 : ∀ j, j < a.size → byteAt a j = byteAt b j) : a = b := by
  apply ByteArray.ext
  apply Array.toList_inj.1
  apply List.ext_getElem
  · simpa using h
  · intro j h3 h4
    have h5 : j < a.size := by simpa using h3
    have := h2 j h5
    unfold byteAt at this
    rwa [List.getD_eq_getElem?_getD, List.getD_eq_getElem?_getD, List.getElem?_eq_getElem h3, List.getElem?_eq_getElem h4] at this
theorem patS_at {bound : List ByteArray} {l : List TermT} {j : Nat} {t : TermT} (h : l[j]? = some t) : byteAt (patS bound l) j = patB bound t := by
  unfold byteAt patS
  rw [List.getD_eq_getElem?_getD]
  simp [h]
theorem patB_b {bound : List ByteArray} {t : TermT} : ((patB bound t).toNat : Int) = 98 ↔ givenB bound t = true := by
  unfold patB
  cases givenB bound t <;> simp
theorem patB_or {bound : List ByteArray} {t : TermT} : patB bound t = 98 ∨ patB bound t = 102 := by
  unfold patB
  cases givenB bound t <;> simp
def freeS (n : Nat) : ByteArray := ⟨(List.replicate n (102 : UInt8)).toArray⟩
theorem freeS_size {n : Nat} : (freeS n).size = n := by simp [freeS, ByteArray.size]
theorem freeS_succ {n : Nat} : freeS n ++ ⟨#[102]⟩ = freeS (n + 1) := by
  apply ByteArray.ext
  apply Array.ext'
  simp only [freeS, List.replicate_succ', ByteArray.data_append]
  simp
theorem freeS_at {n j : Nat} (h : j < n) : byteAt (freeS n) j = 102 := by
  unfold byteAt freeS
  rw [List.getD_eq_getElem?_getD]
  simp [h]
section
variable (a : AtomT) (bound more : List ByteArray)
theorem given_more {t : TermT} (h : givenB bound t = true) : givenB (bound ++ more) t = true := by
  simp only [givenB, inS, Bool.or_eq_true, List.any_append] at h ⊢
  rcases h with h | h
  · exact .inl h
  · exact .inr (.inl h)
theorem cov_de : covD (a.p, patS bound a.args) (a.p, patS (bound ++ more) a.args) = true := by
  simp only [covD, decide_true, Bool.true_and, Bool.and_eq_true, decide_eq_true_eq, patS_size, List.all_eq_true, List.mem_range]
  intro j hj
  have ht := List.getElem?_eq_getElem hj
  simp only [covB, patS_at ht, Bool.not_eq_true', Bool.and_eq_false_iff, decide_eq_false_iff_not, Bool.not_eq_false', decide_eq_true_eq, patB_b]
  cases h : givenB bound a.args[j] with
  | false => exact .inl (by simp)
  | true => exact .inr (given_more bound more h)
theorem cov_self (d : D2) : covD d d = true := by
  simp only [covD, decide_true, Bool.true_and, List.all_eq_true, List.mem_range]
  intro j hj
  simp only [covB]
  cases h : decide (((byteAt d.2 j).toNat : Int) = 98) <;> simp
theorem cov_fe : covD (a.p, freeS a.args.length) (a.p, patS (bound ++ more) a.args) = true := by
  simp only [covD, decide_true, Bool.true_and, Bool.and_eq_true, decide_eq_true_eq, patS_size, freeS_size, List.all_eq_true, List.mem_range]
  intro j hj
  simp only [covB, freeS_at hj]
  simp
theorem cov_ed : covD (a.p, patS (bound ++ more) a.args) (a.p, patS bound a.args) = decide ((a.p, patS bound a.args) = ((a.p, patS (bound ++ more) a.args) : D2)) := by
  rw [Bool.eq_iff_iff, decide_eq_true_eq]
  constructor
  · intro h
    simp only [covD, decide_true, Bool.true_and, Bool.and_eq_true, decide_eq_true_eq, patS_size, List.all_eq_true, List.mem_range] at h
    congr 1
    refine bytes_ext (by simp only [patS_size]) fun j hj => ?_
    rw [patS_size] at hj
    have ht := List.getElem?_eq_getElem hj
    have := h j hj
    simp only [covB, patS_at ht, Bool.not_eq_true', Bool.and_eq_false_iff, decide_eq_false_iff_not, Bool.not_eq_false', decide_eq_true_eq, patB_b] at this
    rw [patS_at ht, patS_at ht]
    unfold patB
    have h2 := given_more bound more (t := a.args[j])
    cases h3 : givenB bound a.args[j] <;> cases h4 : givenB (bound ++ more) a.args[j] <;> simp_all
  · intro h
    rw [h]
    exact cov_self _
theorem use_one {d e : D2} (h : covD d e = true) : useD [d] e = (d, true) := by simp [useD, h]
theorem use_two {d e : D2} : (useD [d] e).2 = covD d e := by
  unfold useD
  cases h : covD d e <;> simp [h]
end
end Go.Proofs.YtiphnjohbbpkpaaA
