
/- StrataOrder' row: for every input the law returns true, and each argument reads behind the call as it read before; no condition beyond the statement's own. -/
import Derived.Test.YtfkilcegdajdcaaRows
import Derived.Test.YtfkilcegdajdcaaGOrder
import Derived.Test.YtfkilcegdajdcaaPureStrataOrder
import Derived.Test.YtfkilcegdajdcaaOpenP
import Derived.SizedLaws
import Derived.ChangeSlices
import Derived.WalkKit
import Derived.ProofKit
import Derived.OpenShut
import Derived.ShutString
import Derived.ChangeOld
import Derived.Below
namespace Go.Proofs.Ytfkilcegdajdcaa.strataOrder
open Go.ChangeShapes Go.WideShapes Go.ChangeAt Go.RowKit Go.Proofs.Ytfkilcegdajdcaa.Open Go.Proofs.YtfkilcegdajdcaaW.PrintWords
open Go.ChangeMaps (open_string shut_string)
set_option linter.unusedVariables false
theorem own : ownKnob Try.prog.godebug = none := by kernel_rfl
theorem laidOut : laidOutB Try.prog = true := by kernel_rfl
set_option maxRecDepth 100000 in
theorem lifted (os : Os) (started : os.Started) (H : Type) (enc : TypeId × Value → H) :
    ReturnsInHanded {} Try.checked os 4 .any (Rows.strataOrderSpec.pre6 enc Try.prog Try.f4 Rows.strataOrderRow.domain false) (Rows.strataOrderSpec.post enc Try.prog Try.f4 false true false false) := by
  refine returnsInHanded_of_change_sized (C := Try.checked) own started (by kernel_rfl) Try.func4
    (ChangeSpec.witness6 (enc := enc) (C := Try.checked) false ⟨#[], #[.agg #[.slice none 0 0, .string ByteArray.empty, .slice none 0 0], .int .u8 0], []⟩ 8 (by kernel_rfl) (by kernel_rfl) (by kernel_rfl) (by kernel_rfl)) ?_
  intro W base args ds gs before hval0 hW hcnd hsz0 _
  have hval : ∀ (j : Nat) t v, Try.f4.params[j]? = some t → args[j]? = some v → Value.okWide Try.prog W .any base t v := hval0
  have hW' := hW
  obtain ⟨p, q, hA0, hV, rfl, hfz, hnd⟩ := hW
  have hA : DataW.TrodAll enc Try.prog W 0 (fun _ => true) true Try.f4.params.toList args.toList ds p := hA0
  rw [Try.params4] at hA hval
  obtain ⟨v0, vs0, d0, ds0, p0, q0, hargs, rfl, rfl, h0, r0⟩ := trodAll_cons hA
  obtain ⟨v1, vs1, d1, ds1, p1, q1, rfl, rfl, rfl, h1, r1⟩ := trodAll_cons r0
  obtain ⟨rfl, rfl, rfl⟩ := trodAll_nil r1
  obtain rfl : args = #[v0, v1] := by cases args; simp_all
  obtain ⟨rfl, rfl⟩ := trodVars_none hV
  obtain ⟨cs0, rfl, hsz0⟩ := okWide_struct Try.underlying27 (hval 0 27 v0 rfl rfl)
  have k0 := h0
  have lt0 : ∀ x ∈ p0, x.block < W.heap.size := by obtain ⟨m, hm⟩ := k0; exact DataW.trod_lt m _ _ _ hm
  obtain ⟨m0, hm0⟩ := h0
  obtain ⟨x0, hx0, hG0⟩ := opens27 enc W 0 (fun _ => true) true m0 _ _ hm0
  obtain ⟨A0, c0, B0, e0, hcs0, hl0, hC0, hk0, hD0⟩ := PZ.k27_open hx0
  obtain rfl : cs0 = #[.slice A0 x0.f0.length c0, .string x0.f1.f0, .slice B0 x0.f1.f1.length e0] := Array.toList_inj.1 hcs0
  obtain ⟨a1, rfl, rfl, rfl, hG1⟩ := open_int Try.underlying5 (hval 1 5 v1 rfl rfl) h1
  clear hA0 hval0 hsz0
  obtain ⟨k, h⟩ := Pure.StrataOrder x0.f0 x0.f1.f0 x0.f1.f1 a1 hG0.1 hG0.2 hG1
  refine (PZ.antecedentlaw13_StrataOrder.calls k _ _ x0.f0 x0.f1.f0 _ _ x0.f1.f1 a1 true W hC0 hl0 hD0 hk0 h).mono fun e W' ⟨he, bel⟩ => ?_
  subst he
  exact ⟨_, rfl, _, _, _, [], _, [], hW', trodAll_mk1 (shut_bool Try.underlying4 _), (trodAll_cons_mk (Below.trod laidOut (by kernel_rfl) (of_decide_eq_true (by kernel_rfl)) k0 bel lt0) (trodAll_cons_mk (shut_int Try.underlying5 hG1) trodAll_mk0)), rfl, bel.frame _, fun h => by cases h⟩
theorem over : Rows.strataOrderRow.holds Try.pinned (OpenSpec.ofChange Rows.strataOrderSpec) :=
  OpenClaim.holds_of_wide 4 Try.f4 rfl rfl rfl rfl rfl rfl rfl ⟨rfl, rfl, rfl, rfl, rfl⟩ rfl rfl rfl rfl rfl (by kernel_rfl) Try.func4 (by kernel_rfl)
    (of_decide_eq_true (by kernel_rfl)) (by unfold Func.isWrapper; first | (rw [if_pos (by decide +kernel)]; kernel_rfl) | (rw [if_neg (by decide +kernel)]; exact ⟨rfl, rfl⟩))
    (fun os started H enc _ => lifted os started H enc)
theorem proved : Rows.StrataOrderSaid := over
#print axioms proved
end Go.Proofs.Ytfkilcegdajdcaa.strataOrder
namespace Go.Proofs.Ytfkilcegdajdcaa
theorem strataOrder_holds : Rows.StrataOrderSaid := strataOrder.proved
end Go.Proofs.Ytfkilcegdajdcaa
