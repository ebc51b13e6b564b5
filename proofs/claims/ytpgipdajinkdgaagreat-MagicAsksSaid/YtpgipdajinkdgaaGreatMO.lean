/- A part of the proof of MagicAsks: functions of the program, run by the evaluator. -/

/- What is asked for alone: its rules. What a rewriting is made of. -/
import Derived.Test.YtpgipdajinkdgaaGreatM9
namespace Go.Proofs.YtpgipdajinkdgaaGreatA
open Go Go.RowKit
set_option linter.all false
set_option linter.unusedSectionVars false
set_option linter.constructorNameAsVariable false
set_option linter.unusedVariables false
set_option linter.unusedSimpArgs false
open Classical in
theorem openB_iff {p : ProgT} {s : ByteArray} : openB p s = true ↔ (0 < derR p.rules s ∧ ∀ v t, Rch (adjN (needsE p)) (posS (namesT p) s) v → (namesT p)[v]? = some t → shutR p.rules t = 0) := by
  unfold openB
  rw [decide_eq_true_eq]
theorem pre_app (a b : ByteArray) : preB (a ++ b) a = true := by
  unfold preB
  rw [Bool.and_eq_true, decide_eq_true_eq, decide_eq_true_eq]
  refine ⟨by rw [ByteArray.size_append]; omega, ?_⟩
  apply ByteArray.ext
  simp
theorem pfx_no {p : ProgT} {s : ByteArray} (h : s ∈ namesT p) : preB s (pfxT p) = false := by
  have h2 := pfxJ_no (Ord.sorted (allN p))
  unfold noPre at h2
  rw [Bool.not_eq_true', List.any_eq_false] at h2
  have := h2 s h
  unfold pfxT
  simpa using this
def badL (p : ProgT) (px : ByteArray) (l : LitT) : Bool := decide (l.k = 2) || (decide (l.k = 5) || (decide (l.k = 1) && !preB l.a.p px && derB p l.a.p))
structure Made (p : ProgT) (px : ByteArray) (x : RuleT) : Prop where
  head : preB x.head.p px = true
  fold : x.fold = 0
  body : ∀ l ∈ x.body, badL p px l = false
  len : x.body.length ≤ 1000
theorem mem_inS {l : List ByteArray} {s : ByteArray} (h : s ∈ l) : inS l s = true := by
  unfold inS
  simpa using h
def madeR (px : ByteArray) (op : List ByteArray) (used : List D2) (p : ProgT) : List RuleT := ask0 px used p :: used.flatMap (dmR px op used p)
theorem rewT_rules (px : ByteArray) (op : List ByteArray) (used : List D2) (p : ProgT) : (rewT px op used p).rules = madeR px op used p ++ baseR p := rfl
theorem baseR_no {p : ProgT} : ∀ x ∈ baseR p, preB x.head.p (pfxT p) = false := fun x hx => pfx_no (head_named (List.mem_filter.1 hx).1)
end Go.Proofs.YtpgipdajinkdgaaGreatA
