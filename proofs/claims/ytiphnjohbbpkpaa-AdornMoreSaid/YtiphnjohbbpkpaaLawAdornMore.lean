/- AdornMore' row: for every input the law returns true, and each argument reads behind the call as it read before; no condition beyond the statement's own. -/
import Derived.Test.YtiphnjohbbpkpaaRows
import Derived.Test.YtiphnjohbbpkpaaLMore3
import Derived.SizedLaws
import Derived.ChangeSlices
import Derived.WalkKit
import Derived.ProofKit
import Derived.OpenShut
import Derived.ShutString
import Derived.ChangeOld
import Derived.Below
namespace Go.Proofs.Ytiphnjohbbpkpaa.adornMore
open Go.ChangeShapes Go.WideShapes Go.ChangeAt Go.RowKit Go.Proofs.YtiphnjohbbpkpaaA
set_option linter.all false
set_option linter.unusedSectionVars false
set_option linter.constructorNameAsVariable false
open Go.ChangeMaps (open_string shut_string)
set_option linter.unusedVariables false
theorem own : ownKnob Try.prog.godebug = none := by kernel_rfl
theorem laidOut : laidOutB Try.prog = true := by kernel_rfl
set_option maxRecDepth 100000 in
theorem lifted (os : Os) (started : os.Started) (H : Type) (enc : TypeId × Value → H) :
    ReturnsInHanded {} Try.checked os 6 .any (Rows.adornMoreSpec.pre6 enc Try.prog Try.f6 Rows.adornMoreRow.domain false) (Rows.adornMoreSpec.post enc Try.prog Try.f6 false true false false) := by
  refine returnsInHanded_of_change_sized (C := Try.checked) own started (by kernel_rfl) Try.func6
    (ChangeSpec.witness6 (enc := enc) (C := Try.checked) false ⟨#[], #[.agg #[.string ByteArray.empty, .slice none 0 0], .slice none 0 0, .slice none 0 0], []⟩ 12 (by kernel_rfl) (by kernel_rfl) (by kernel_rfl) (by kernel_rfl)) ?_
  intro W base args ds gs before hval0 hW hcnd hsz0 _
  have hval : ∀ (j : Nat) t v, Try.f6.params[j]? = some t → args[j]? = some v → Value.okWide Try.prog W .any base t v := hval0
  have hW' := hW
  obtain ⟨p, q, hA0, hV, rfl, hfz, hnd⟩ := hW
  have hA : DataW.TrodAll enc Try.prog W 0 (fun _ => true) true Try.f6.params.toList args.toList ds p := hA0
  rw [Try.params6] at hA hval
  obtain ⟨v0, vs0, d0, ds0, p0, q0, hargs, rfl, rfl, h0, r0⟩ := trodAll_cons hA
  obtain ⟨v1, vs1, d1, ds1, p1, q1, rfl, rfl, rfl, h1, r1⟩ := trodAll_cons r0
  obtain ⟨v2, vs2, d2, ds2, p2, q2, rfl, rfl, rfl, h2, r2⟩ := trodAll_cons r1
  obtain ⟨rfl, rfl, rfl⟩ := trodAll_nil r2
  obtain rfl : args = #[v0, v1, v2] := by cases args; simp_all
  obtain ⟨rfl, rfl⟩ := trodVars_none hV
  obtain ⟨cs0, rfl, hsz0⟩ := okWide_struct Try.underlying43 (hval 0 43 v0 rfl rfl)
  obtain ⟨a1, len1, cap1, rfl⟩ := okWide_slice Try.underlying48 (hval 1 48 v1 rfl rfl)
  obtain ⟨a2, len2, cap2, rfl⟩ := okWide_slice Try.underlying48 (hval 2 48 v2 rfl rfl)
  have k0 := h0
  have lt0 : ∀ x ∈ p0, x.block < W.heap.size := by obtain ⟨m, hm⟩ := k0; exact DataW.trod_lt m _ _ _ hm
  have k1 := h1
  have lt1 : ∀ x ∈ p1, x.block < W.heap.size := by obtain ⟨m, hm⟩ := k1; exact DataW.trod_lt m _ _ _ hm
  have k2 := h2
  have lt2 : ∀ x ∈ p2, x.block < W.heap.size := by obtain ⟨m, hm⟩ := k2; exact DataW.trod_lt m _ _ _ hm
  obtain ⟨m0, hm0⟩ := h0
  obtain ⟨m1, hm1⟩ := h1
  obtain ⟨m2, hm2⟩ := h2
  obtain ⟨x0, ⟨y0, rfl⟩, hv0⟩ := reads_atom _ _ _ _ _ _ _ _ _ hm0
  obtain ⟨x1, ⟨y1, rfl⟩, hv1⟩ := reads_strs _ _ _ _ _ _ _ _ _ hm1
  obtain ⟨x2, ⟨y2, rfl⟩, hv2⟩ := reads_strs _ _ _ _ _ _ _ _ _ hm2
  clear hA0 hval0 hsz0
  obtain ⟨H1, eRun⟩ := more_call y0 y1 y2
  simp only [VRL] at hv1
  obtain ⟨_, _, e1, hv1, rfl⟩ := hv1
  have e1' := (List.cons.inj e1).1
  subst e1'
  simp only [VRL] at hv2
  obtain ⟨_, _, e2, hv2, rfl⟩ := hv2
  have e2' := (List.cons.inj e2).1
  subst e2'
  have hcall := call_of fit (w := W) (vs := [.agg cs0, .slice a1 len1 cap1, .slice a2 len2 cap2]) eRun (by
    simp only [VRL]
    exact ⟨_, _, rfl, (by simp only [VR]; exact ⟨cs0, rfl, hv0⟩), ⟨_, _, rfl, (hv1), ⟨_, _, rfl, (hv2), rfl⟩⟩⟩)
  refine hcall.mono fun e W' ⟨he, bel⟩ => ?_
  subst he
  exact ⟨_, rfl, _, _, _, [], _, [], hW', trodAll_mk1 (shut_bool Try.underlying4 _), (trodAll_cons_mk (Below.trod laidOut (by kernel_rfl) (of_decide_eq_true (by kernel_rfl)) k0 bel lt0) (trodAll_cons_mk (Below.trod laidOut (by kernel_rfl) (of_decide_eq_true (by kernel_rfl)) k1 bel lt1) (trodAll_cons_mk (Below.trod laidOut (by kernel_rfl) (of_decide_eq_true (by kernel_rfl)) k2 bel lt2) trodAll_mk0))), rfl, bel.frame _, fun h => by cases h⟩
theorem over : Rows.adornMoreRow.holds Try.pinned (OpenSpec.ofChange Rows.adornMoreSpec) :=
  OpenClaim.holds_of_wide 6 Try.f6 rfl rfl rfl rfl rfl rfl rfl ⟨rfl, rfl, rfl, rfl, rfl⟩ rfl rfl rfl rfl rfl (by kernel_rfl) Try.func6 (by kernel_rfl)
    (of_decide_eq_true (by kernel_rfl)) (by unfold Func.isWrapper; first | (rw [if_pos (by decide +kernel)]; kernel_rfl) | (rw [if_neg (by decide +kernel)]; exact ⟨rfl, rfl⟩))
    (fun os started H enc _ => lifted os started H enc)
theorem proved : Rows.AdornMoreSaid := over
#print axioms proved
end Go.Proofs.Ytiphnjohbbpkpaa.adornMore
namespace Go.Proofs.Ytiphnjohbbpkpaa
theorem adornMore_holds : Rows.AdornMoreSaid := adornMore.proved
end Go.Proofs.Ytiphnjohbbpkpaa
