
/- A program that is an argument, read as data: it is of the kind that the printed words tell, and its strings are no longer than strings can be. -/
import Derived.Test.YtfkilcegdajdcaaOpen
import Derived.Test.YtfkilcegdajdcaaPZx0
namespace Go.Proofs.Ytfkilcegdajdcaa.Open
open Go.Proofs.YtfkilcegdajdcaaW.PrintWords Go.Proofs.Ytfkilcegdajdcaa.PZ
set_option linter.unusedVariables false
set_option maxRecDepth 100000 in
theorem opens67 : Opens Try.prog 67 k67 (fun x => x.f1.size ≤ 9223372036854775807) :=
  opens_mono (opens_iso (g := fun p => ⟨p.1, p.2⟩) (fun _ => rfl) (opens_struct Try.underlying67 (by kernel_rfl) (fields_cons rfl (by kernel_rfl) (opens_int Try.underlying3) (fields_one rfl (by kernel_rfl) (opens_string Try.underlying9))))) (fun _ h => h.2)
set_option maxRecDepth 100000 in
theorem opens41 : Opens Try.prog 41 k41 (fun _ => True) :=
  opens_mono (opens_iso (g := fun p => ⟨p.1, p.2.1, p.2.2⟩) (fun _ => rfl) (opens_struct Try.underlying41 (by kernel_rfl) (fields_cons rfl (by kernel_rfl) (opens_int Try.underlying3) (fields_cons rfl (by kernel_rfl) (opens_int Try.underlying2) (fields_one rfl (by kernel_rfl) (opens_string Try.underlying9)))))) (fun _ _ => trivial)
set_option maxRecDepth 100000 in
theorem opens43 : Opens Try.prog 43 k43 (fun _ => True) :=
  opens_mono (opens_iso (g := fun p => ⟨p.1, p.2⟩) (fun _ => rfl) (opens_struct Try.underlying43 (by kernel_rfl) (fields_cons rfl (by kernel_rfl) (opens_string Try.underlying9) (fields_one rfl (by kernel_rfl) opens41)))) (fun _ _ => trivial)
set_option maxRecDepth 100000 in
theorem opens25 : Opens Try.prog 25 k25 (fun x => x.f0.size ≤ 9223372036854775807) :=
  opens_mono (opens_iso (g := fun p => ⟨p.1, p.2⟩) (fun _ => rfl) (opens_struct Try.underlying25 (by kernel_rfl) (fields_cons rfl (by kernel_rfl) (opens_string Try.underlying9) (fields_one rfl (by kernel_rfl) (opens_slice Try.underlying23 (by kernel_rfl) opens43))))) (fun _ h => h.1)
set_option maxRecDepth 100000 in
theorem opens46 : Opens Try.prog 46 k46 (fun x => x.f1.f0.size ≤ 9223372036854775807 ∧ ∀ q ∈ x.f6, q.f1.size ≤ 9223372036854775807) :=
  opens_mono (opens_iso (g := fun p => ⟨p.1, p.2.1, p.2.2.1, p.2.2.2.1, p.2.2.2.2.1, p.2.2.2.2.2.1, p.2.2.2.2.2.2⟩) (fun _ => rfl) (opens_struct Try.underlying46 (by kernel_rfl) (fields_cons rfl (by kernel_rfl) (opens_int Try.underlying3) (fields_cons rfl (by kernel_rfl) opens25 (fields_cons rfl (by kernel_rfl) (opens_string Try.underlying9) (fields_cons rfl (by kernel_rfl) opens43 (fields_cons rfl (by kernel_rfl) opens43 (fields_cons rfl (by kernel_rfl) opens43 (fields_one rfl (by kernel_rfl) (opens_slice Try.underlying44 (by kernel_rfl) opens67)))))))))) (fun _ h => ⟨h.2.1, h.2.2.2.2.2.2⟩)
set_option maxRecDepth 100000 in
theorem opens39 : Opens Try.prog 39 k39 (fun r => r.f0.f0.size ≤ 9223372036854775807 ∧ ∀ x ∈ r.f2, x.f1.f0.size ≤ 9223372036854775807 ∧ ∀ q ∈ x.f6, q.f1.size ≤ 9223372036854775807) :=
  opens_mono (opens_iso (g := fun p => ⟨p.1, p.2.1, p.2.2⟩) (fun _ => rfl) (opens_struct Try.underlying39 (by kernel_rfl) (fields_cons rfl (by kernel_rfl) opens25 (fields_cons rfl (by kernel_rfl) (opens_int Try.underlying3) (fields_one rfl (by kernel_rfl) (opens_slice Try.underlying37 (by kernel_rfl) opens46)))))) (fun _ h => ⟨h.1, h.2.2⟩)
set_option maxRecDepth 100000 in
theorem opens27 : Opens Try.prog 27 k27 (fun p => (∀ r ∈ p.f0, r.f0.f0.size ≤ 9223372036854775807 ∧ ∀ x ∈ r.f2, x.f1.f0.size ≤ 9223372036854775807 ∧ ∀ q ∈ x.f6, q.f1.size ≤ 9223372036854775807) ∧ p.f1.f0.size ≤ 9223372036854775807) :=
  opens_mono (opens_iso (g := fun p => ⟨p.1, p.2⟩) (fun _ => rfl) (opens_struct Try.underlying27 (by kernel_rfl) (fields_cons rfl (by kernel_rfl) (opens_slice Try.underlying22 (by kernel_rfl) opens39) (fields_one rfl (by kernel_rfl) opens25)))) (fun _ h => h)
end Go.Proofs.Ytfkilcegdajdcaa.Open
