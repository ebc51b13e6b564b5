/- MagicNames' row: for every input the law returns true, and each argument reads behind the call as it read before; no condition beyond the statement's own. -/
import Derived.Test.YtpgipdajinkdgaaGreatRows
import Derived.Test.YtpgipdajinkdgaaGreatLNames
import Derived.SizedLaws
import Derived.ChangeSlices
import Derived.WalkKit
import Derived.ProofKit
import Derived.OpenShut
import Derived.ShutString
import Derived.ChangeOld
import Derived.Below
namespace Go.Proofs.YtpgipdajinkdgaaGreat.magicNames
open Go.ChangeShapes Go.WideShapes Go.ChangeAt Go.RowKit Go.Proofs.YtpgipdajinkdgaaGreatA
set_option linter.all false
set_option linter.unusedSectionVars false
set_option linter.constructorNameAsVariable false
open Go.ChangeMaps (open_string shut_string)
set_option linter.unusedVariables false
theorem own : ownKnob Tryz.prog.godebug = none := by kernel_rfl
theorem laidOut : laidOutB Tryz.prog = true := by kernel_rfl
set_option maxRecDepth 100000 in
theorem lifted (os : Os) (started : os.Started) (H : Type) (enc : TypeId × Value → H) :
    ReturnsInHanded {} Tryz.checked os 3 .any (Rows.magicNamesSpec.pre6 enc Tryz.prog Tryz.f3 Rows.magicNamesRow.domain false) (Rows.magicNamesSpec.post enc Tryz.prog Tryz.f3 false true false false) := by
  refine returnsInHanded_of_change_sized (C := Tryz.checked) own started (by kernel_rfl) Tryz.func3
    (ChangeSpec.witness6 (enc := enc) (C := Tryz.checked) false ⟨#[], #[.string ByteArray.empty, .agg #[.string ByteArray.empty, .string ByteArray.empty], .agg #[.string ByteArray.empty, .string ByteArray.empty], .agg #[.string ByteArray.empty, .slice none 0 0]], []⟩ 12 (by kernel_rfl) (by kernel_rfl) (by kernel_rfl) (by kernel_rfl)) ?_
  intro W base args ds gs before hval0 hW hcnd hsz0 _
  have hval : ∀ (j : Nat) t v, Tryz.f3.params[j]? = some t → args[j]? = some v → Value.okWide Tryz.prog W .any base t v := hval0
  have hW' := hW
  obtain ⟨p, q, hA0, hV, rfl, hfz, hnd⟩ := hW
  have hA : DataW.TrodAll enc Tryz.prog W 0 (fun _ => true) true Tryz.f3.params.toList args.toList ds p := hA0
  rw [Tryz.params3] at hA hval hsz0
  obtain ⟨v0, vs0, d0, ds0, p0, q0, hargs, rfl, rfl, h0, r0⟩ := trodAll_cons hA
  obtain ⟨v1, vs1, d1, ds1, p1, q1, rfl, rfl, rfl, h1, r1⟩ := trodAll_cons r0
  obtain ⟨v2, vs2, d2, ds2, p2, q2, rfl, rfl, rfl, h2, r2⟩ := trodAll_cons r1
  obtain ⟨v3, vs3, d3, ds3, p3, q3, rfl, rfl, rfl, h3, r3⟩ := trodAll_cons r2
  obtain ⟨rfl, rfl, rfl⟩ := trodAll_nil r3
  obtain rfl : args = #[v0, v1, v2, v3] := by cases args; simp_all
  obtain ⟨rfl, rfl⟩ := trodVars_none hV
  obtain ⟨s0, rfl, _⟩ := okWide_string Tryz.underlying9 (hval 0 9 v0 rfl rfl)
  obtain ⟨cs1, rfl, hsz1⟩ := okWide_struct Tryz.underlying23 (hval 1 23 v1 rfl rfl)
  obtain ⟨cs2, rfl, hsz2⟩ := okWide_struct Tryz.underlying23 (hval 2 23 v2 rfl rfl)
  obtain ⟨cs3, rfl, hsz3⟩ := okWide_struct Tryz.underlying26 (hval 3 26 v3 rfl rfl)
  have k0 := h0
  have lt0 : ∀ x ∈ p0, x.block < W.heap.size := by obtain ⟨m, hm⟩ := k0; exact DataW.trod_lt m _ _ _ hm
  have k1 := h1
  have lt1 : ∀ x ∈ p1, x.block < W.heap.size := by obtain ⟨m, hm⟩ := k1; exact DataW.trod_lt m _ _ _ hm
  have k2 := h2
  have lt2 : ∀ x ∈ p2, x.block < W.heap.size := by obtain ⟨m, hm⟩ := k2; exact DataW.trod_lt m _ _ _ hm
  have k3 := h3
  have lt3 : ∀ x ∈ p3, x.block < W.heap.size := by obtain ⟨m, hm⟩ := k3; exact DataW.trod_lt m _ _ _ hm
  obtain ⟨m0, hm0⟩ := h0
  obtain ⟨m1, hm1⟩ := h1
  obtain ⟨m2, hm2⟩ := h2
  obtain ⟨m3, hm3⟩ := h3
  obtain ⟨y1, zA1, zB1, hv1⟩ := dem_bound hm1 (fun n hn => by
    have := List.all_eq_true.1 hsz0 n (DataW.weights_mem_each (j := 1) rfl rfl n hn)
    simpa using this)
  obtain ⟨y2, zA2, zB2, hv2⟩ := dem_bound hm2 (fun n hn => by
    have := List.all_eq_true.1 hsz0 n (DataW.weights_mem_each (j := 2) rfl rfl n hn)
    simpa using this)
  obtain ⟨x3, ⟨y3, rfl⟩, hv3⟩ := reads_atom _ _ _ _ _ _ _ _ _ hm3
  clear hA0 hval0 hsz0
  obtain ⟨H1, eRun⟩ := magicNames_call s0 y1 y2 y3 zA1 zB1 zA2 zB2
  have hcall := call_of fit (w := W) (vs := [.string s0, .agg cs1, .agg cs2, .agg cs3]) eRun (by
    simp only [VRL]
    exact ⟨_, _, rfl, (by simp only [VR]), ⟨_, _, rfl, (by simp only [VR]; exact ⟨cs1, rfl, hv1⟩), ⟨_, _, rfl, (by simp only [VR]; exact ⟨cs2, rfl, hv2⟩), ⟨_, _, rfl, (by simp only [VR]; exact ⟨cs3, rfl, hv3⟩), rfl⟩⟩⟩⟩)
  refine hcall.mono fun e W' ⟨he, bel⟩ => ?_
  subst he
  exact ⟨_, rfl, _, _, _, [], _, [], hW', trodAll_mk1 (shut_bool Tryz.underlying4 _), (trodAll_cons_mk (Below.trod laidOut (by kernel_rfl) (of_decide_eq_true (by kernel_rfl)) k0 bel lt0) (trodAll_cons_mk (Below.trod laidOut (by kernel_rfl) (of_decide_eq_true (by kernel_rfl)) k1 bel lt1) (trodAll_cons_mk (Below.trod laidOut (by kernel_rfl) (of_decide_eq_true (by kernel_rfl)) k2 bel lt2) (trodAll_cons_mk (Below.trod laidOut (by kernel_rfl) (of_decide_eq_true (by kernel_rfl)) k3 bel lt3) trodAll_mk0)))), rfl, bel.frame _, fun h => by cases h⟩
theorem over : Rows.magicNamesRow.holds Tryz.pinned (OpenSpec.ofChange Rows.magicNamesSpec) :=
  OpenClaim.holds_of_wide 3 Tryz.f3 rfl rfl rfl rfl rfl rfl rfl ⟨rfl, rfl, rfl, rfl, rfl⟩ rfl rfl rfl rfl rfl (by kernel_rfl) Tryz.func3 (by kernel_rfl)
    (of_decide_eq_true (by kernel_rfl)) (by unfold Func.isWrapper; first | (rw [if_pos (by decide +kernel)]; kernel_rfl) | (rw [if_neg (by decide +kernel)]; exact ⟨rfl, rfl⟩))
    (fun os started H enc _ => lifted os started H enc)
theorem proved : Rows.MagicNamesSaid := over
#print axioms proved
end Go.Proofs.YtpgipdajinkdgaaGreat.magicNames
namespace Go.Proofs.YtpgipdajinkdgaaGreat
theorem magicNames_holds : Rows.MagicNamesSaid := magicNames.proved
end Go.Proofs.YtpgipdajinkdgaaGreat
