/- Demands, read with a bound on their size. -/
import Derived.Test.YtpgipdajinkdgaaGreatO2
import Derived.SizedLaws
namespace Go.Proofs.YtpgipdajinkdgaaGreatA
open Go Go.RowKit
set_option linter.all false
set_option linter.unusedSectionVars false
set_option linter.constructorNameAsVariable false
set_option linter.unusedVariables false
set_option linter.unusedSimpArgs false
theorem two_of {α : Type} : ∀ {l : List α}, l.length = 2 → ∃ a b, l = [a, b]
  | [a, b], _ => ⟨a, b, rfl⟩
theorem cellsStr : Tryz.prog.cellsOf 9 = 1 := by kernel_rfl
theorem dem_bound {H : Type} {enc : TypeId × Value → H} {w : World} {base fuel : Nat} {spare : Nat → Bool} {held : Bool} {cs : List Value} {y : DataW H × List MemPlace} (h : DataW.trod enc Tryz.prog w base spare held fuel 23 cs = some y) (hw : ∀ n ∈ y.1.weights Tryz.prog 23, n ≤ reachBytes) :
    ∃ d : D2, d.1.size ≤ reachBytes ∧ d.2.size ≤ reachBytes ∧ VRL w nF BM.none [.sc (.string d.1), .sc (.string d.2)] cs := by
  obtain ⟨xs, n, _, rfl, hl, hx, hel⟩ := DataW.trod_struct Tryz.underlying23 h
  have hx2 : xs.length = 2 := hx
  clear hx
  obtain ⟨a, b, rfl⟩ := two_of hx2
  have hcl : cs.length = 2 := hl.trans (by kernel_rfl)
  clear hl
  obtain ⟨c0, c1, rfl⟩ := two_of hcl
  have h0 : DataW.trod enc Tryz.prog w base spare held n 9 [c0] = some a := (congrArg (fun m => DataW.trod enc Tryz.prog w base spare held n 9 (List.take m [c0, c1])) cellsStr).symm.trans (hel 0 _ rfl)
  have h1 : DataW.trod enc Tryz.prog w base spare held n 9 [c1] = some b := (congrArg (fun m => DataW.trod enc Tryz.prog w base spare held n 9 (List.take m [c1])) cellsStr).symm.trans (hel 1 _ rfl)
  obtain ⟨s0, e0, ea, _⟩ := DataW.trod_string Tryz.underlying9 h0
  obtain ⟨s1, e1, eb, _⟩ := DataW.trod_string Tryz.underlying9 h1
  subst ea eb
  cases e0
  cases e1
  have hu := Tryz.underlying23
  refine ⟨(s0, s1), ?_, ?_, ?_⟩
  · have := hw s0.data.toList.length (by simp [DataW.weights, hu, DataW.weightsEach])
    simpa using this
  · have := hw s1.data.toList.length (by simp [DataW.weights, hu, DataW.weightsEach])
    simpa using this
  · simp only [VRL, VR]
    exact ⟨_, _, rfl, rfl, _, _, rfl, rfl, rfl⟩
end Go.Proofs.YtpgipdajinkdgaaGreatA
