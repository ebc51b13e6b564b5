/- A part of the proof of AdornCovers: functions of the program, run by the evaluator. -/
import Derived.Test.YtiphnjohbbpkpaaZ
namespace Go.Proofs.YtiphnjohbbpkpaaA
open Go Go.RowKit
set_option linter.all false
set_option linter.unusedSectionVars false
set_option linter.constructorNameAsVariable false
def fitB (P : Program) (C : Cfg) : Bool := (List.range P.funcs.size).all fun f => match P.funcs[f]? with
  | some fn => fn.name != "runtime.NumGoroutine" && (!C.use f || (match fn.body with | some c => regs (okDraw P (pureOf C.mode)) (C.dyn f) c | none => true))
  | none => true
theorem fitB_true : fitB Try.prog cf = true := by kernel_rfl
theorem Fit.of {P : Program} {C : Cfg} (hm : P.follows .mixedOrders = true) (hp : ∀ f, C.prim f = none) (h : fitB P C = true) : Fit P C where
  mix := hm
  name f fn hf := by
    have hlt : f < P.funcs.size := by rcases Nat.lt_or_ge f P.funcs.size with h | h; exact h; rw [Array.getElem?_eq_none h] at hf; cases hf
    have := List.all_eq_true.1 h f (by simpa using hlt)
    rw [hf] at this
    simp only [Bool.and_eq_true, bne_iff_ne] at this
    exact this.1
  use f fn c hu hf hb := by
    have hlt : f < P.funcs.size := by rcases Nat.lt_or_ge f P.funcs.size with h | h; exact h; rw [Array.getElem?_eq_none h] at hf; cases hf
    have := List.all_eq_true.1 h f (by simpa using hlt)
    rw [hf] at this
    simp only [Bool.and_eq_true, hu, hb, Bool.not_true, Bool.false_or] at this
    exact this.2
  prim f p args H r H' hf := by rw [hp f] at hf; cases hf
theorem fit : Fit Try.prog cf := Fit.of (by kernel_rfl) (fun _ => rfl) fitB_true
end Go.Proofs.YtiphnjohbbpkpaaA
