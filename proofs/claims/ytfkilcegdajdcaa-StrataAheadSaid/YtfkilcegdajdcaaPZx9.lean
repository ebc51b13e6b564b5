
/- Printed by a turned copy of the printer (wip/mkprint.py): Go functions as Lean functions, with a proof of each. -/
import Derived.Test.YtfkilcegdajdcaaPZx0
import Derived.Test.YtfkilcegdajdcaaPZx1
import Derived.Test.YtfkilcegdajdcaaGAwake
import Derived.Test.YtfkilcegdajdcaaPZx8
import Derived.Test.YtfkilcegdajdcaaGNames
import Derived.Test.YtfkilcegdajdcaaGStrata
namespace Go.Proofs.Ytfkilcegdajdcaa.PZ
open Go.RowKit Go.Proofs.YtfkilcegdajdcaaW.PrintWords Go.Proofs.YtfkilcegdajdcaaW.PrintLast Go.Proofs.YtfkilcegdajdcaaW.PrintMore
attribute [local go_sem] max2_int min2_int max_two min_two max_three min_three max_four min_four   -- for this text's walks alone
set_option linter.unusedVariables false
set_option linter.unusedSimpArgs false
mutual
def antecedentlaw13_StrataAhead.j0 : Nat → Bool → List (S39) → ByteArray → List (S43) → Option (Bool)
  | 0, _, _, _, _ => none
  | k + 1, x24, x276000, x276001, x276002 => if x24 = true then ((antecedentlaw13_awake.f k).bind fun t278 => (some t278)) else ((strata_Strata.f k x276000 x276001 x276002).bind fun bt279 => (if bt279.2 = 0 then (antecedentlaw13_StrataAhead.l0 k bt279.1 0 (bt279.1.length : Int) 0 x276000 x276001 x276002) else (some ((bt279.1.length : Int) == 0))))
def antecedentlaw13_StrataAhead.l0 : Nat → List (List ByteArray) → Int → Int → Int → List (S39) → ByteArray → List (S43) → Option (Bool)
  | 0, _, _, _, _, _, _, _ => none
  | k + 1, x3, x5, x37, x38, x276000, x276001, x276002 => if x38 < x37 then (if 0 ≤ x38 then (if x38 < (x3.length : Int) then (antecedentlaw13_StrataAhead.l0 k x3 (wrap64 (x5 + ((rd_L1 x3 x38).length : Int))) x37 (wrap64 (x38 + 1)) x276000 x276001 x276002) else (none)) else (none)) else ((strata_Names.f k x276000 x276001 x276002).bind fun t284 => (antecedentlaw13_StrataAhead.l1 k x3 x5 t284 (t284.length : Int) 0 x276000 x276001 x276002))
def antecedentlaw13_StrataAhead.l1 : Nat → List (List ByteArray) → Int → List ByteArray → Int → Int → List (S39) → ByteArray → List (S43) → Option (Bool)
  | 0, _, _, _, _, _, _, _, _ => none
  | k + 1, x3, x5, x7, x52, x53, x276000, x276001, x276002 => if x53 < x52 then (if 0 ≤ x53 then (if x53 < (x7.length : Int) then ((antecedentlaw13_place.f k x3 (rdOf ByteArray.empty x7 x53)).bind fun t288 => (if t288 < 0 then (some false) else (antecedentlaw13_StrataAhead.l1 k x3 x5 x7 x52 (wrap64 (x53 + 1)) x276000 x276001 x276002))) else (none)) else (none)) else (antecedentlaw13_StrataAhead.l2 k x3 x5 x7 (x276000.length : Int) 0 x276000 x276001 x276002)
def antecedentlaw13_StrataAhead.l2 : Nat → List (List ByteArray) → Int → List ByteArray → Int → Int → List (S39) → ByteArray → List (S43) → Option (Bool)
  | 0, _, _, _, _, _, _, _, _ => none
  | k + 1, x3, x5, x7, x66, x67, x276000, x276001, x276002 => if x67 < x66 then (if 0 ≤ x67 then (if x67 < (x276000.length : Int) then ((antecedentlaw13_place.f k x3 ((rd_T39 x276000 x67).f0.f0)).bind fun t291 => (antecedentlaw13_StrataAhead.l3 k x3 x5 x7 t291 (decide (((rd_T39 x276000 x67).f1) > 0)) x66 x67 (((rd_T39 x276000 x67).f2).length : Int) 0 x276000 x276001 x276002 ((rd_T39 x276000 x67).f0.f0) ((rd_T39 x276000 x67).f0.f1) ((rd_T39 x276000 x67).f1) ((rd_T39 x276000 x67).f2))) else (none)) else (none)) else (some (x5 == (x7.length : Int)))
def antecedentlaw13_StrataAhead.l3 : Nat → List (List ByteArray) → Int → List ByteArray → Int → Bool → Int → Int → Int → Int → List (S39) → ByteArray → List (S43) → ByteArray → List (S43) → Int → List (S46) → Option (Bool)
  | 0, _, _, _, _, _, _, _, _, _, _, _, _, _, _, _, _ => none
  | k + 1, x3, x5, x7, x11, x12, x66, x67, x85, x86, x276000, x276001, x276002, x291000, x291001, x291002, x291003 => if x86 < x85 then (if x12 = true then (antecedentlaw13_StrataAhead.l3 k x3 x5 x7 x11 true x66 x67 x85 (wrap64 (x86 + 1)) x276000 x276001 x276002 x291000 x291001 x291002 x291003) else (if 0 ≤ x86 then (if x86 < (x291003.length : Int) then (antecedentlaw13_StrataAhead.l3 k x3 x5 x7 x11 (((rd_T46 x291003 x86).f0) == 4) x66 x67 x85 (wrap64 (x86 + 1)) x276000 x276001 x276002 x291000 x291001 x291002 x291003) else (none)) else (none))) else (antecedentlaw13_StrataAhead.l4 k x3 x5 x7 x11 x12 x66 x67 (x291003.length : Int) 0 x276000 x276001 x276002 x291000 x291001 x291002 x291003)
def antecedentlaw13_StrataAhead.l4 : Nat → List (List ByteArray) → Int → List ByteArray → Int → Bool → Int → Int → Int → Int → List (S39) → ByteArray → List (S43) → ByteArray → List (S43) → Int → List (S46) → Option (Bool)
  | 0, _, _, _, _, _, _, _, _, _, _, _, _, _, _, _, _ => none
  | k + 1, x3, x5, x7, x11, x12, x66, x67, x102, x103, x276000, x276001, x276002, x291000, x291001, x291002, x291003 => if x103 < x102 then (if 0 ≤ x103 then (if x103 < (x291003.length : Int) then ((strata_Uses.f k ((rd_T46 x291003 x103).f0) ((rd_T46 x291003 x103).f1.f0) ((rd_T46 x291003 x103).f1.f1) ((rd_T46 x291003 x103).f2) ((rd_T46 x291003 x103).f3.f0) ((rd_T46 x291003 x103).f3.f1.f0) ((rd_T46 x291003 x103).f3.f1.f1) ((rd_T46 x291003 x103).f3.f1.f2) ((rd_T46 x291003 x103).f4.f0) ((rd_T46 x291003 x103).f4.f1.f0) ((rd_T46 x291003 x103).f4.f1.f1) ((rd_T46 x291003 x103).f4.f1.f2) ((rd_T46 x291003 x103).f5.f0) ((rd_T46 x291003 x103).f5.f1.f0) ((rd_T46 x291003 x103).f5.f1.f1) ((rd_T46 x291003 x103).f5.f1.f2) ((rd_T46 x291003 x103).f6)).bind fun t294 => (antecedentlaw13_StrataAhead.l5 k x3 x5 x7 x11 x12 x103 x66 x67 x102 x103 t294 (t294.length : Int) 0 x276000 x276001 x276002 x291000 x291001 x291002 x291003)) else (none)) else (none)) else (antecedentlaw13_StrataAhead.l2 k x3 x5 x7 x66 (wrap64 (x67 + 1)) x276000 x276001 x276002)
def antecedentlaw13_StrataAhead.l5 : Nat → List (List ByteArray) → Int → List ByteArray → Int → Bool → Int → Int → Int → Int → Int → List ByteArray → Int → Int → List (S39) → ByteArray → List (S43) → ByteArray → List (S43) → Int → List (S46) → Option (Bool)
  | 0, _, _, _, _, _, _, _, _, _, _, _, _, _, _, _, _, _, _, _, _ => none
  | k + 1, x3, x5, x7, x11, x12, x14, x66, x67, x102, x103, x111, x112, x113, x276000, x276001, x276002, x291000, x291001, x291002, x291003 => if x113 < x112 then (if 0 ≤ x113 then (if x113 < (x111.length : Int) then ((antecedentlaw13_place.f k x3 (rdOf ByteArray.empty x111 x113)).bind fun t298 => (if t298 < 0 then (some false) else (if t298 > x11 then (some false) else (if t298 = x11 then (if x12 = true then (some false) else (if 0 ≤ x14 then (if x14 < (x291003.length : Int) then (if ((rd_T46 x291003 x14).f0) = 2 then (some false) else (antecedentlaw13_StrataAhead.l5 k x3 x5 x7 x11 x12 x14 x66 x67 x102 x103 x111 x112 (wrap64 (x113 + 1)) x276000 x276001 x276002 x291000 x291001 x291002 x291003)) else (none)) else (none))) else (antecedentlaw13_StrataAhead.l5 k x3 x5 x7 x11 x12 x14 x66 x67 x102 x103 x111 x112 (wrap64 (x113 + 1)) x276000 x276001 x276002 x291000 x291001 x291002 x291003))))) else (none)) else (none)) else (antecedentlaw13_StrataAhead.l4 k x3 x5 x7 x11 x12 x66 x67 x102 (wrap64 (x103 + 1)) x276000 x276001 x276002 x291000 x291001 x291002 x291003)
end
def antecedentlaw13_StrataAhead.f (k : Nat) (l0_0 : List (S39)) (a0_1 : ByteArray) (l0_2 : List (S43)) : Option (Bool) := (antecedentlaw13_awake.f k).bind fun t276 => (if t276 = true then ((antecedentlaw13_few.f k l0_0 a0_1 l0_2).bind fun t277 => (antecedentlaw13_StrataAhead.j0 k (!t277) l0_0 a0_1 l0_2)) else (antecedentlaw13_StrataAhead.j0 k true l0_0 a0_1 l0_2))
theorem antecedentlaw13_StrataAhead.mono_l : ∀ k, (∀ y0 y1 y2 y3, LeO (antecedentlaw13_StrataAhead.j0 k y0 y1 y2 y3) (antecedentlaw13_StrataAhead.j0 (k + 1) y0 y1 y2 y3)) ∧ (∀ y0 y1 y2 y3 y4 y5 y6, LeO (antecedentlaw13_StrataAhead.l0 k y0 y1 y2 y3 y4 y5 y6) (antecedentlaw13_StrataAhead.l0 (k + 1) y0 y1 y2 y3 y4 y5 y6)) ∧ (∀ y0 y1 y2 y3 y4 y5 y6 y7, LeO (antecedentlaw13_StrataAhead.l1 k y0 y1 y2 y3 y4 y5 y6 y7) (antecedentlaw13_StrataAhead.l1 (k + 1) y0 y1 y2 y3 y4 y5 y6 y7)) ∧ (∀ y0 y1 y2 y3 y4 y5 y6 y7, LeO (antecedentlaw13_StrataAhead.l2 k y0 y1 y2 y3 y4 y5 y6 y7) (antecedentlaw13_StrataAhead.l2 (k + 1) y0 y1 y2 y3 y4 y5 y6 y7)) ∧ (∀ y0 y1 y2 y3 y4 y5 y6 y7 y8 y9 y10 y11 y12 y13 y14 y15, LeO (antecedentlaw13_StrataAhead.l3 k y0 y1 y2 y3 y4 y5 y6 y7 y8 y9 y10 y11 y12 y13 y14 y15) (antecedentlaw13_StrataAhead.l3 (k + 1) y0 y1 y2 y3 y4 y5 y6 y7 y8 y9 y10 y11 y12 y13 y14 y15)) ∧ (∀ y0 y1 y2 y3 y4 y5 y6 y7 y8 y9 y10 y11 y12 y13 y14 y15, LeO (antecedentlaw13_StrataAhead.l4 k y0 y1 y2 y3 y4 y5 y6 y7 y8 y9 y10 y11 y12 y13 y14 y15) (antecedentlaw13_StrataAhead.l4 (k + 1) y0 y1 y2 y3 y4 y5 y6 y7 y8 y9 y10 y11 y12 y13 y14 y15)) ∧ (∀ y0 y1 y2 y3 y4 y5 y6 y7 y8 y9 y10 y11 y12 y13 y14 y15 y16 y17 y18 y19, LeO (antecedentlaw13_StrataAhead.l5 k y0 y1 y2 y3 y4 y5 y6 y7 y8 y9 y10 y11 y12 y13 y14 y15 y16 y17 y18 y19) (antecedentlaw13_StrataAhead.l5 (k + 1) y0 y1 y2 y3 y4 y5 y6 y7 y8 y9 y10 y11 y12 y13 y14 y15 y16 y17 y18 y19))
  | 0 => ⟨fun _ _ _ _ r h => by simp [antecedentlaw13_StrataAhead.j0] at h, fun _ _ _ _ _ _ _ r h => by simp [antecedentlaw13_StrataAhead.l0] at h, fun _ _ _ _ _ _ _ _ r h => by simp [antecedentlaw13_StrataAhead.l1] at h, fun _ _ _ _ _ _ _ _ r h => by simp [antecedentlaw13_StrataAhead.l2] at h, fun _ _ _ _ _ _ _ _ _ _ _ _ _ _ _ _ r h => by simp [antecedentlaw13_StrataAhead.l3] at h, fun _ _ _ _ _ _ _ _ _ _ _ _ _ _ _ _ r h => by simp [antecedentlaw13_StrataAhead.l4] at h, fun _ _ _ _ _ _ _ _ _ _ _ _ _ _ _ _ _ _ _ _ r h => by simp [antecedentlaw13_StrataAhead.l5] at h⟩
  | k + 1 => by
    obtain ⟨ih0, ih1, ih2, ih3, ih4, ih5, ih6⟩ := antecedentlaw13_StrataAhead.mono_l k
    refine ⟨?_, ?_, ?_, ?_, ?_, ?_, ?_⟩
    all_goals
      intros
      first | unfold antecedentlaw13_StrataAhead.j0 | unfold antecedentlaw13_StrataAhead.l0 | unfold antecedentlaw13_StrataAhead.l1 | unfold antecedentlaw13_StrataAhead.l2 | unfold antecedentlaw13_StrataAhead.l3 | unfold antecedentlaw13_StrataAhead.l4 | unfold antecedentlaw13_StrataAhead.l5
      repeat' first
      | (with_reducible exact ih0 _ _ _ _)
      | (with_reducible exact ih1 _ _ _ _ _ _ _)
      | (with_reducible exact ih2 _ _ _ _ _ _ _ _)
      | (with_reducible exact ih3 _ _ _ _ _ _ _ _)
      | (with_reducible exact ih4 _ _ _ _ _ _ _ _ _ _ _ _ _ _ _ _)
      | (with_reducible exact ih5 _ _ _ _ _ _ _ _ _ _ _ _ _ _ _ _)
      | (with_reducible exact ih6 _ _ _ _ _ _ _ _ _ _ _ _ _ _ _ _ _ _ _ _)
      | (with_reducible exact antecedentlaw13_awake.mono _)
      | (with_reducible exact antecedentlaw13_few.mono _ _ _ _)
      | (with_reducible exact antecedentlaw13_place.mono _ _ _)
      | (with_reducible exact strata_Names.mono _ _ _ _)
      | (with_reducible exact strata_Strata.mono _ _ _ _)
      | (with_reducible exact strata_Uses.mono _ _ _ _ _ _ _ _ _ _ _ _ _ _ _ _ _ _)
      | (with_reducible exact LeO.refl _)
      | (with_reducible exact LeO.none _)
      | (with_reducible refine LeO.ite ?_ ?_)
      | (with_reducible refine LeO.bind ?_ (fun _ => ?_))
theorem antecedentlaw13_StrataAhead.mono : ∀ a0 a1 a2 k, LeO (antecedentlaw13_StrataAhead.f k a0 a1 a2) (antecedentlaw13_StrataAhead.f (k + 1) a0 a1 a2) := by
 intro a0 a1 a2 k
 obtain ⟨ih0, ih1, ih2, ih3, ih4, ih5, ih6⟩ := antecedentlaw13_StrataAhead.mono_l k
 unfold antecedentlaw13_StrataAhead.f
 repeat' first
  | (with_reducible exact ih0 _ _ _ _)
  | (with_reducible exact ih1 _ _ _ _ _ _ _)
  | (with_reducible exact ih2 _ _ _ _ _ _ _ _)
  | (with_reducible exact ih3 _ _ _ _ _ _ _ _)
  | (with_reducible exact ih4 _ _ _ _ _ _ _ _ _ _ _ _ _ _ _ _)
  | (with_reducible exact ih5 _ _ _ _ _ _ _ _ _ _ _ _ _ _ _ _)
  | (with_reducible exact ih6 _ _ _ _ _ _ _ _ _ _ _ _ _ _ _ _ _ _ _ _)
  | (with_reducible exact antecedentlaw13_awake.mono _)
  | (with_reducible exact antecedentlaw13_few.mono _ _ _ _)
  | (with_reducible exact antecedentlaw13_place.mono _ _ _)
  | (with_reducible exact strata_Names.mono _ _ _ _)
  | (with_reducible exact strata_Strata.mono _ _ _ _)
  | (with_reducible exact strata_Uses.mono _ _ _ _ _ _ _ _ _ _ _ _ _ _ _ _ _ _)
  | (with_reducible exact LeO.refl _)
  | (with_reducible exact LeO.none _)
  | (with_reducible refine LeO.ite ?_ ?_)
  | (with_reducible refine LeO.bind ?_ (fun _ => ?_))
set_option maxHeartbeats 8000000 in
set_option maxRecDepth 100000 in
theorem antecedentlaw13_StrataAhead.calls (k : Nat) (A0_0 : Option Addr) (c0_0 : Nat) (l0_0 : List (S39)) (a0_1 : ByteArray) (A0_2 : Option Addr) (c0_2 : Nat) (l0_2 : List (S43)) (r : Bool) (w : World) (hr0_0 : Kd.C k39 w A0_0 l0_0.length l0_0) (hc0_0 : l0_0.length ≤ c0_0) (hr0_2 : Kd.C k43 w A0_2 l0_2.length l0_2) (hc0_2 : l0_2.length ≤ c0_2) (h : antecedentlaw13_StrataAhead.f k l0_0 a0_1 l0_2 = some r) :
 Calls Try.prog 3 #[.agg #[.slice A0_0 l0_0.length c0_0, .string a0_1, .slice A0_2 l0_2.length c0_2]] w fun e w' => e = .returned (.bool r) ∧ Below w.heap.size w w' := by
 have hu27 := Try.underlying27
 have hu39 := Try.underlying39
 have hu46 := Try.underlying46
 have HR0_0 := Aside0.mk hr0_0
 have HC0_0 := Aside0.mk hc0_0
 clear hr0_0 hc0_0
 have HR0_2 := Aside0.mk hr0_2
 have HC0_2 := Aside0.mk hc0_2
 clear hr0_2 hc0_2
 have HB := Aside0.mk (Below.refl w.heap.size w)
 have H : ((antecedentlaw13_awake.f k).bind fun t276 => (if t276 = true then ((antecedentlaw13_few.f k l0_0 a0_1 l0_2).bind fun t277 => (antecedentlaw13_StrataAhead.j0 k (!t277) l0_0 a0_1 l0_2)) else (antecedentlaw13_StrataAhead.j0 k true l0_0 a0_1 l0_2))) = some r := h
 clear h
 have HC2 := Aside0.mk H
 clear H
 go_enter Try.func3, Try.ntmps3
 go_upto_region 1 with (first | ((with_reducible refine gate_dst (N := 1) rfl ?_); refine box_event ?hg (N := 1) ?hd (cs := #[.slice A0_0 l0_0.length c0_0, .string a0_1, .slice A0_2 l0_2.length c0_2]) (t := 27) ?hr ?_; (case hd => rfl); (case hg => rfl); (case hr => first | (go_simp; done) | (go_simp; rfl)); intro gb275 hg w3 hbox hb; have n0_ := Aside0.mk (below_step (by repeat (first | (with_reducible first | exact HB.out | apply below_alloc | apply pw_below_drewN | apply below_drew1) | exact HB.out)) hb); have n1_ := Aside0.mk (hbox); have n2_ := Aside0.mk ((by rw [hg]; exact (below_size (by repeat (first | (with_reducible first | exact HB.out | apply below_alloc | apply pw_below_drewN | apply below_drew1) | exact HB.out))) : w.heap.size ≤ gb275)); have n3_ := Aside0.mk ((by rw [hg]; exact (below_size (by repeat (first | (with_reducible first | exact HB.out | apply below_alloc | apply pw_below_drewN | apply below_drew1) | exact HB.out))) : w.heap.size ≤ gb275)); clear HB; have HB := n0_; have BK275 := n1_; have GW275 := n2_; have GE275 := n3_; clear n0_ n1_ n2_ n3_; clear hb hbox hg))
 (try simp only [Act.put, List.setIfInBounds_toArray, List.set_cons_zero, List.set_cons_succ])
 go_cut [24] (fun v24 wc => ∃ (kq : Nat) (x24_1 : Bool), v24 = .bool x24_1 ∧ Aside0 (antecedentlaw13_StrataAhead.j0 kq x24_1 l0_0 a0_1 l0_2 = some r) ∧ Aside0 (kq ≤ k) ∧ Aside0 (wc.heap[gb275]? = some (.cells #[(.slice A0_0 l0_0.length c0_0), .string a0_1, (.slice A0_2 l0_2.length c0_2)] 27 (0, 0))) ∧ Aside0 (Below w.heap.size w wc))
 case first =>
  have H := HC2.out
  clear HC2
  replace H := Option.bind_eq_some_iff.mp H
  obtain ⟨t276, A40, H⟩ := H
  have A4 := Aside0.mk A40
  clear A40
  by_cases c5 : t276 = true
  case neg =>
   replace c5 := Bool.eq_false_iff.mpr c5
   subst c5
   rw [if_neg (show ¬ (false = true) by decide)] at H
   have H' := Aside0.mk H
   clear H
   go_wp2_with (first | ((with_reducible refine gate_callee (f := 8) rfl ?_); refine goesL_ (some 18) rfl rfl Try.func8 (by kernel_rfl) rfl #[] rfl (by (try simp only [List.map_toArray, List.map_cons, List.map_nil]); first | done | rfl | (simp only [List.length_drop, List.length_take]; rfl)) ?_; (with_reducible refine (antecedentlaw13_awake.calls k  false _ A4.out).mono ?_); rintro e w10 ⟨rfl, hb⟩; refine ⟨_, rfl, ?_⟩; have n0_ := Aside0.mk (blk_below (g := gb275) (o := .cells #[.slice A0_0 l0_0.length c0_0, .string a0_1, .slice A0_2 l0_2.length c0_2] 27 (0, 0)) (by (with_reducible repeat (first | refine blk_drewN ?_ _ | refine blk_drew ?_ | refine blk_alloc ?_ _)); exact BK275.out) hb); have n1_ := Aside0.mk (below_step (by repeat (first | (with_reducible first | exact HB.out | apply below_alloc | apply pw_below_drewN | apply below_drew1 | refine below_set ?_ GE275.out) | exact HB.out)) hb); clear BK275; clear HB; have BK275 := n0_; have HB := n1_; clear n0_ n1_; (try clear hb); (try clear hb2); (try clear hk); (try clear hi)))
   go_wp2
   repeat (go_quiet (fail); try go_wp2)
   go_meet
   case rel => exact ⟨_, (true), (by first | rfl | (simp; done) | (simp [*]; done)), H', ⟨by first | omega | exact Nat.le_refl _⟩, ⟨by (with_reducible repeat (first | refine blk_drewN ?_ _ | refine blk_drew ?_ | refine blk_alloc ?_ _)); exact BK275.out⟩, ⟨by repeat (first | (with_reducible first | exact HB.out | apply below_alloc | apply pw_below_drewN | apply below_drew1 | refine below_set ?_ GE275.out) | exact HB.out)⟩⟩
  subst c5
  rw [if_pos rfl] at H
  replace H := Option.bind_eq_some_iff.mp H
  obtain ⟨t277, A60, H⟩ := H
  have A6 := Aside0.mk A60
  clear A60
  have H' := Aside0.mk H
  clear H
  go_wp2_with (first | ((with_reducible refine gate_callee (f := 8) rfl ?_); refine goesL_ (some 18) rfl rfl Try.func8 (by kernel_rfl) rfl #[] rfl (by (try simp only [List.map_toArray, List.map_cons, List.map_nil]); first | done | rfl | (simp only [List.length_drop, List.length_take]; rfl)) ?_; (with_reducible refine (antecedentlaw13_awake.calls k  true _ A4.out).mono ?_); rintro e w7 ⟨rfl, hb⟩; refine ⟨_, rfl, ?_⟩; have n0_ := Aside0.mk (blk_below (g := gb275) (o := .cells #[.slice A0_0 l0_0.length c0_0, .string a0_1, .slice A0_2 l0_2.length c0_2] 27 (0, 0)) (by (with_reducible repeat (first | refine blk_drewN ?_ _ | refine blk_drew ?_ | refine blk_alloc ?_ _)); exact BK275.out) hb); have n1_ := Aside0.mk (below_step (by repeat (first | (with_reducible first | exact HB.out | apply below_alloc | apply pw_below_drewN | apply below_drew1 | refine below_set ?_ GE275.out) | exact HB.out)) hb); clear BK275; clear HB; have BK275 := n0_; have HB := n1_; clear n0_ n1_; (try clear hb); (try clear hb2); (try clear hk); (try clear hi); have hcz8_0 : w7.cell? ⟨gb275, 0, none⟩ = some (.slice A0_0 l0_0.length c0_0) := (blk_cell BK275.out 0).trans rfl; have hcz8_1 : w7.cell? ⟨gb275, 1, none⟩ = some (.string a0_1) := (blk_cell BK275.out 1).trans rfl; have hcz8_2 : w7.cell? ⟨gb275, 2, none⟩ = some (.slice A0_2 l0_2.length c0_2) := (blk_cell BK275.out 2).trans rfl; have hfz8_0 := blk_frozen BK275.out 0; have hfz8_1 := blk_frozen BK275.out 1; have hfz8_2 := blk_frozen BK275.out 2) | (go_at_call 9; (with_reducible refine (antecedentlaw13_few.calls k _ _ l0_0 a0_1 _ _ l0_2 t277 _ ?side1 ?side2 ?side3 ?side4 A6.out).mono ?_); (case side1 => repeat (first | exact (Kd.C_below HR0_0.out HB.out) | (with_reducible refine Kd.C_alloc ?_ _) | (with_reducible refine Kd.C_drewN ?_ _) | (with_reducible refine Kd.C_drew ?_))); (case side2 => exact HC0_0.out); (case side3 => repeat (first | exact (Kd.C_below HR0_2.out HB.out) | (with_reducible refine Kd.C_alloc ?_ _) | (with_reducible refine Kd.C_drewN ?_ _) | (with_reducible refine Kd.C_drew ?_))); (case side4 => exact HC0_2.out); rintro e w9 ⟨rfl, hb⟩; have n0_ := Aside0.mk (blk_below (g := gb275) (o := .cells #[.slice A0_0 l0_0.length c0_0, .string a0_1, .slice A0_2 l0_2.length c0_2] 27 (0, 0)) (by (with_reducible repeat (first | refine blk_drewN ?_ _ | refine blk_drew ?_ | refine blk_alloc ?_ _)); exact BK275.out) hb); have n1_ := Aside0.mk (below_step (by repeat (first | (with_reducible first | exact HB.out | apply below_alloc | apply pw_below_drewN | apply below_drew1 | refine below_set ?_ GE275.out) | exact HB.out)) hb); clear BK275; clear HB; have BK275 := n0_; have HB := n1_; clear n0_ n1_; (try clear hb); (try clear hb2); (try clear hk); (try clear hi)))
  go_wp2
  repeat (go_quiet (fail); try go_wp2)
  go_meet
  case rel => exact ⟨_, (!t277), (by first | rfl | (simp; done) | (simp [*]; done)), H', ⟨by first | omega | exact Nat.le_refl _⟩, ⟨by (with_reducible repeat (first | refine blk_drewN ?_ _ | refine blk_drew ?_ | refine blk_alloc ?_ _)); exact BK275.out⟩, ⟨by repeat (first | (with_reducible first | exact HB.out | apply below_alloc | apply pw_below_drewN | apply below_drew1 | refine below_set ?_ GE275.out) | exact HB.out)⟩⟩
 clear HC2
 try clear p2
 try clear c3
 try clear c5
 try clear c8
 try clear hcz8_0
 try clear hcz8_1
 try clear hcz8_2
 try clear hfz8_0
 try clear hfz8_1
 try clear hfz8_2
 obtain ⟨kq, x24_1, rfl, HA, HJ1, BK275, HB⟩ := hcut
 obtain _ | kj1 := kq
 · exact absurd HA.out (by simp [antecedentlaw13_StrataAhead.j0])
 have H := HA.out
 clear HA
 simp only [antecedentlaw13_StrataAhead.j0] at H
 by_cases c11 : x24_1 = true
 case pos =>
  subst c11
  rw [if_pos rfl] at H
  replace H := Option.bind_eq_some_iff.mp H
  obtain ⟨t278, A120, H⟩ := H
  have A12 := Aside0.mk A120
  clear A120
  obtain rfl := Option.some.inj H
  go_wp2_with (first | ((with_reducible refine gate_callee (f := 8) rfl ?_); refine goesL_ (some 25) rfl rfl Try.func8 (by kernel_rfl) rfl #[] rfl (by (try simp only [List.map_toArray, List.map_cons, List.map_nil]); first | done | rfl | (simp only [List.length_drop, List.length_take]; rfl)) ?_; (with_reducible refine (antecedentlaw13_awake.calls kj1  t278 _ A12.out).mono ?_); rintro e w13 ⟨rfl, hb⟩; refine ⟨_, rfl, ?_⟩; have n0_ := Aside0.mk (blk_below (g := gb275) (o := .cells #[.slice A0_0 l0_0.length c0_0, .string a0_1, .slice A0_2 l0_2.length c0_2] 27 (0, 0)) (by (with_reducible repeat (first | refine blk_drewN ?_ _ | refine blk_drew ?_ | refine blk_alloc ?_ _)); exact BK275.out) hb); have n1_ := Aside0.mk (below_step (by repeat (first | (with_reducible first | exact HB.out | apply below_alloc | apply pw_below_drewN | apply below_drew1 | refine below_set ?_ GE275.out) | exact HB.out)) hb); clear BK275; clear HB; have BK275 := n0_; have HB := n1_; clear n0_ n1_; (try clear hb); (try clear hb2); (try clear hk); (try clear hi)))
  go_wp2
  repeat (go_quiet (fail); try go_wp2)
  go_ret
  exact ⟨by first | rfl | (simp [errW_none, errW_some] <;> rfl) | (simp [*, errW_none, errW_some] <;> rfl), by repeat (first | (with_reducible first | exact HB.out | apply below_alloc | apply pw_below_drewN | apply below_drew1 | refine below_set ?_ GE275.out) | exact HB.out)⟩
 replace c11 := Bool.eq_false_iff.mpr c11
 subst c11
 rw [if_neg (show ¬ (false = true) by decide)] at H
 replace H := Option.bind_eq_some_iff.mp H
 obtain ⟨⟨t279, t282⟩, A140, H⟩ := H
 dsimp only at H
 have A14 := Aside0.mk A140
 clear A140
 by_cases c15 : t282 = 0
 case neg =>
  rw [if_neg c15] at H
  have c15b0 := beq_eq_false_iff_ne.mpr c15
  have c15b1 := bne_iff_ne.mpr c15
  obtain rfl := Option.some.inj H
  have hcz71_0 : wc.cell? ⟨gb275, 0, none⟩ = some (.slice A0_0 l0_0.length c0_0) := (blk_cell BK275.out 0).trans rfl
  have hcz71_1 : wc.cell? ⟨gb275, 1, none⟩ = some (.string a0_1) := (blk_cell BK275.out 1).trans rfl
  have hcz71_2 : wc.cell? ⟨gb275, 2, none⟩ = some (.slice A0_2 l0_2.length c0_2) := (blk_cell BK275.out 2).trans rfl
  have hfz71_0 := blk_frozen BK275.out 0
  have hfz71_1 := blk_frozen BK275.out 1
  have hfz71_2 := blk_frozen BK275.out 2
  go_wp2_with (first | ((with_reducible refine gate_callee (f := 10) rfl ?_); refine goesL_ (some 28) rfl rfl Try.func10 (by kernel_rfl) rfl #[.agg #[.slice A0_0 l0_0.length c0_0, .string a0_1, .slice A0_2 l0_2.length c0_2]] rfl (by (try simp only [List.map_toArray, List.map_cons, List.map_nil]); first | done | rfl | (simp only [List.length_drop, List.length_take]; rfl)) ?_; (with_reducible refine (strata_Strata.calls kj1 _ _ l0_0 a0_1 _ _ l0_2 t279 t282 _ ?side1 ?side2 ?side3 ?side4 A14.out).mono ?_); (case side1 => repeat (first | exact (Kd.C_below HR0_0.out HB.out) | (with_reducible refine Kd.C_alloc ?_ _) | (with_reducible refine Kd.C_drewN ?_ _) | (with_reducible refine Kd.C_drew ?_))); (case side2 => exact HC0_0.out); (case side3 => repeat (first | exact (Kd.C_below HR0_2.out HB.out) | (with_reducible refine Kd.C_alloc ?_ _) | (with_reducible refine Kd.C_drewN ?_ _) | (with_reducible refine Kd.C_drew ?_))); (case side4 => exact HC0_2.out); rintro e w72 ⟨v280, rfl, ho0, hb⟩; refine ⟨_, rfl, ?_⟩; have n0_ := Aside0.mk (Kd.S_lower ho0 (below_size (by repeat (first | (with_reducible first | exact HB.out | apply below_alloc | apply pw_below_drewN | apply below_drew1 | refine below_set ?_ GE275.out) | exact HB.out)))); have n1_ := Aside0.mk (blk_below (g := gb275) (o := .cells #[.slice A0_0 l0_0.length c0_0, .string a0_1, .slice A0_2 l0_2.length c0_2] 27 (0, 0)) (by (with_reducible repeat (first | refine blk_drewN ?_ _ | refine blk_drew ?_ | refine blk_alloc ?_ _)); exact BK275.out) hb); have n2_ := Aside0.mk (below_step (by repeat (first | (with_reducible first | exact HB.out | apply below_alloc | apply pw_below_drewN | apply below_drew1 | refine below_set ?_ GE275.out) | exact HB.out)) hb); clear BK275; clear HB; have HO281 := n0_; have BK275 := n1_; have HB := n2_; clear n0_ n1_ n2_; (try clear hb); (try clear hb2); (try clear hk); (try clear hi); (try clear ho0); obtain ⟨Ao73, co73, eo73⟩ := Kd.S_slice HO281.out; subst eo73))
  go_wp2
  repeat (go_quiet (fail); try go_wp2)
  go_ret
  exact ⟨by first | rfl | (simp [errW_none, errW_some] <;> rfl) | (simp [*, errW_none, errW_some] <;> rfl), by repeat (first | (with_reducible first | exact HB.out | apply below_alloc | apply pw_below_drewN | apply below_drew1 | refine below_set ?_ GE275.out) | exact HB.out)⟩
 rw [if_pos c15] at H
 have c15b0 := beq_iff_eq.mpr c15
 have c15b1 := bne_eq_false_iff_eq.mpr c15
 clear c15
 have H' := Aside0.mk H
 clear H
 have hcz16_0 : wc.cell? ⟨gb275, 0, none⟩ = some (.slice A0_0 l0_0.length c0_0) := (blk_cell BK275.out 0).trans rfl
 have hcz16_1 : wc.cell? ⟨gb275, 1, none⟩ = some (.string a0_1) := (blk_cell BK275.out 1).trans rfl
 have hcz16_2 : wc.cell? ⟨gb275, 2, none⟩ = some (.slice A0_2 l0_2.length c0_2) := (blk_cell BK275.out 2).trans rfl
 have hfz16_0 := blk_frozen BK275.out 0
 have hfz16_1 := blk_frozen BK275.out 1
 have hfz16_2 := blk_frozen BK275.out 2
 go_wp2_with (first | ((with_reducible refine gate_callee (f := 10) rfl ?_); refine goesL_ (some 28) rfl rfl Try.func10 (by kernel_rfl) rfl #[.agg #[.slice A0_0 l0_0.length c0_0, .string a0_1, .slice A0_2 l0_2.length c0_2]] rfl (by (try simp only [List.map_toArray, List.map_cons, List.map_nil]); first | done | rfl | (simp only [List.length_drop, List.length_take]; rfl)) ?_; (with_reducible refine (strata_Strata.calls kj1 _ _ l0_0 a0_1 _ _ l0_2 t279 t282 _ ?side1 ?side2 ?side3 ?side4 A14.out).mono ?_); (case side1 => repeat (first | exact (Kd.C_below HR0_0.out HB.out) | (with_reducible refine Kd.C_alloc ?_ _) | (with_reducible refine Kd.C_drewN ?_ _) | (with_reducible refine Kd.C_drew ?_))); (case side2 => exact HC0_0.out); (case side3 => repeat (first | exact (Kd.C_below HR0_2.out HB.out) | (with_reducible refine Kd.C_alloc ?_ _) | (with_reducible refine Kd.C_drewN ?_ _) | (with_reducible refine Kd.C_drew ?_))); (case side4 => exact HC0_2.out); rintro e w17 ⟨v280, rfl, ho0, hb⟩; refine ⟨_, rfl, ?_⟩; have n0_ := Aside0.mk (Kd.S_lower ho0 (below_size (by repeat (first | (with_reducible first | exact HB.out | apply below_alloc | apply pw_below_drewN | apply below_drew1 | refine below_set ?_ GE275.out) | exact HB.out)))); have n1_ := Aside0.mk (blk_below (g := gb275) (o := .cells #[.slice A0_0 l0_0.length c0_0, .string a0_1, .slice A0_2 l0_2.length c0_2] 27 (0, 0)) (by (with_reducible repeat (first | refine blk_drewN ?_ _ | refine blk_drew ?_ | refine blk_alloc ?_ _)); exact BK275.out) hb); have n2_ := Aside0.mk (below_step (by repeat (first | (with_reducible first | exact HB.out | apply below_alloc | apply pw_below_drewN | apply below_drew1 | refine below_set ?_ GE275.out) | exact HB.out)) hb); clear BK275; clear HB; have HO281 := n0_; have BK275 := n1_; have HB := n2_; clear n0_ n1_ n2_; (try clear hb); (try clear hb2); (try clear hk); (try clear hi); (try clear ho0); obtain ⟨Ao18, co18, eo18⟩ := Kd.S_slice HO281.out; subst eo18))
 go_wp2
 repeat (go_quiet (fail); try go_wp2)
 go_loopg [5, 38] kj1 (fun kq v5 v38 w' => ∃ (x5_2 : Int) (x38_2 : Int), v5 = .int .i64 x5_2 ∧ v38 = .int .i64 x38_2 ∧ Aside0 (antecedentlaw13_StrataAhead.l0 kq t279 x5_2 (t279.length : Int) x38_2 l0_0 a0_1 l0_2 = some r) ∧ Aside0 (kq ≤ kj1) ∧ Aside0 (Kd.S (Kd.slice 9 Kd.string) 34 w' w.heap.size (fun _ => True) (.slice Ao18 t279.length co18) t279) ∧ Aside0 (w'.heap[gb275]? = some (.cells #[(.slice A0_0 l0_0.length c0_0), .string a0_1, (.slice A0_2 l0_2.length c0_2)] 27 (0, 0))) ∧ Aside0 (Below w.heap.size w w'))
 case atStart => exact ⟨(0), (0), (by first | rfl | (simp; done) | (simp [*]; done)), (by first | rfl | (simp; done) | (simp [*]; done)), H', ⟨Nat.le_refl _⟩, ⟨by (with_reducible repeat (first | apply Kd.S_alloc | apply Kd.S_drewN | apply Kd.S_drew)); exact HO281.out⟩, ⟨by (with_reducible repeat (first | refine blk_drewN ?_ _ | refine blk_drew ?_ | refine blk_alloc ?_ _)); exact BK275.out⟩, ⟨by repeat (first | (with_reducible first | exact HB.out | apply below_alloc | apply pw_below_drewN | apply below_drew1 | refine below_set ?_ GE275.out) | exact HB.out)⟩⟩
 clear H'
 try clear c1
 try clear p2
 try clear c3
 try clear c5
 try clear c8
 try clear c10
 try clear c11
 try clear c15
 try clear c15b0
 try clear c15b1
 try clear hcz16_0
 try clear hcz16_1
 try clear hcz16_2
 try clear hcz8_0
 try clear hcz8_1
 try clear hcz8_2
 try clear hfz16_0
 try clear hfz16_1
 try clear hfz16_2
 try clear hfz8_0
 try clear hfz8_1
 try clear hfz8_2
 try clear p2
 obtain ⟨x5_2, x38_2, rfl, rfl, HA, HK2, HO_3, BK275, HB⟩ := hrel
 obtain _ | k2 := gk
 · exact absurd HA.out (by simp [antecedentlaw13_StrataAhead.l0])
 have H := HA.out
 clear HA
 simp only [antecedentlaw13_StrataAhead.l0] at H
 by_cases c19 : x38_2 < (t279.length : Int)
 case pos =>
  rw [if_pos c19] at H
  have c19b0 := decide_eq_true c19
  clear c19
  by_cases c20 : 0 ≤ x38_2
  case neg => rw [if_neg c20] at H; exact absurd H (by simp)
  rw [if_pos c20] at H
  have c20b0 := decide_eq_true c20
  clear c20
  by_cases c21 : x38_2 < (t279.length : Int)
  case neg => rw [if_neg c21] at H; exact absurd H (by simp)
  rw [if_pos c21] at H
  have c21b0 := decide_eq_true c21
  clear c21
  have H' := Aside0.mk H
  clear H
  have p283 : 0 ≤ (x38_2 : Int) := of_decide_eq_true (by with_reducible assumption)
  have q283 : x38_2 < (t279.length : Int) := of_decide_eq_true (by with_reducible assumption)
  obtain ⟨ad283, A283_0, c283_0, e283, hx283_0, hl283_0, hi283_0⟩ := at_L1 (Kd.S_reads' HO_3.out).2.2 x38_2 p283 q283
  cases e283
  obtain ⟨ce283, hce283, hMe283, hcc283⟩ := Kd.S_get HO_3.out [] x38_2 p283 (by first | exact q283 | exact of_decide_eq_true (by with_reducible assumption) | (have e_ := (Kd.S_reads' HO_3.out).1; omega))
  obtain ⟨ve283_0, rfl, ge283_0⟩ := hMe283
  have hv283_0 := hcc283 0 _ rfl
  rw [Nat.add_zero, show ((Kd.slice 9 Kd.string)).sz = 1 from rfl, Nat.mul_one] at hv283_0
  replace hv283_0 := Option.some.inj (hv283_0.symm.trans hx283_0)
  rw [hv283_0] at ge283_0
  have HL283_0 := Aside0.mk (show Kd.R Kd.string 9 _ _ _ _ (rd_L1 t279 x38_2) from ge283_0)
  clear hv283_0 ge283_0
  clear hcc283 hce283
  have HR283_0 := Aside0.mk hi283_0
  have HC283_0 := Aside0.mk hl283_0
  clear hi283_0 hl283_0
  replace p283 := eq_true p283
  replace q283 := eq_true q283
  go_wp2
  go_wp2
  repeat (go_quiet (fail); try go_wp2)
  go_roundg k2
  case measure => have := HJ1.out; have := HK2.out; omega
  case rel => exact ⟨(wrap64 (x5_2 + ((rd_L1 t279 x38_2).length : Int))), (wrap64 (x38_2 + 1)), (by first | rfl | (simp; done) | (simp [*]; done)), (by first | rfl | (simp; done) | (simp [*]; done)), H', ⟨by have := HJ1.out; have := HK2.out; omega⟩, ⟨by (with_reducible repeat (first | apply Kd.S_alloc | apply Kd.S_drewN | apply Kd.S_drew)); exact HO_3.out⟩, ⟨by (with_reducible repeat (first | refine blk_drewN ?_ _ | refine blk_drew ?_ | refine blk_alloc ?_ _)); exact BK275.out⟩, ⟨by repeat (first | (with_reducible first | exact HB.out | apply below_alloc | apply pw_below_drewN | apply below_drew1 | refine below_set ?_ GE275.out) | exact HB.out)⟩⟩
 rw [if_neg c19] at H
 have c19b0 := decide_eq_false c19
 clear c19
 replace H := Option.bind_eq_some_iff.mp H
 obtain ⟨t284, A220, H⟩ := H
 have A22 := Aside0.mk A220
 clear A220
 have H' := Aside0.mk H
 clear H
 have hcz23_0 : wr.cell? ⟨gb275, 0, none⟩ = some (.slice A0_0 l0_0.length c0_0) := (blk_cell BK275.out 0).trans rfl
 have hcz23_1 : wr.cell? ⟨gb275, 1, none⟩ = some (.string a0_1) := (blk_cell BK275.out 1).trans rfl
 have hcz23_2 : wr.cell? ⟨gb275, 2, none⟩ = some (.slice A0_2 l0_2.length c0_2) := (blk_cell BK275.out 2).trans rfl
 have hfz23_0 := blk_frozen BK275.out 0
 have hfz23_1 := blk_frozen BK275.out 1
 have hfz23_2 := blk_frozen BK275.out 2
 go_wp2_with (first | ((with_reducible refine gate_callee (f := 11) rfl ?_); refine goesL_ (some 50) rfl rfl Try.func11 (by kernel_rfl) rfl #[.agg #[.slice A0_0 l0_0.length c0_0, .string a0_1, .slice A0_2 l0_2.length c0_2]] rfl (by (try simp only [List.map_toArray, List.map_cons, List.map_nil]); first | done | rfl | (simp only [List.length_drop, List.length_take]; rfl)) ?_; (with_reducible refine (strata_Names.calls k2 _ _ l0_0 a0_1 _ _ l0_2 t284 _ ?side1 ?side2 ?side3 ?side4 A22.out).mono ?_); (case side1 => repeat (first | exact (Kd.C_below HR0_0.out HB.out) | (with_reducible refine Kd.C_alloc ?_ _) | (with_reducible refine Kd.C_drewN ?_ _) | (with_reducible refine Kd.C_drew ?_))); (case side2 => exact HC0_0.out); (case side3 => repeat (first | exact (Kd.C_below HR0_2.out HB.out) | (with_reducible refine Kd.C_alloc ?_ _) | (with_reducible refine Kd.C_drewN ?_ _) | (with_reducible refine Kd.C_drew ?_))); (case side4 => exact HC0_2.out); rintro e w24 ⟨v285, rfl, ho0, hb⟩; refine ⟨_, rfl, ?_⟩; have n0_ := Aside0.mk (Kd.S_elder' (by (with_reducible repeat (first | apply Kd.S_alloc | apply Kd.S_drewN | apply Kd.S_drew)); exact HO_3.out) (Kd.R_base ho0) hb); have n1_ := Aside0.mk (Kd.R_lower ho0 (below_size (by repeat (first | (with_reducible first | exact HB.out | apply below_alloc | apply pw_below_drewN | apply below_drew1 | refine below_set ?_ GE275.out) | exact HB.out)))); have n2_ := Aside0.mk (blk_below (g := gb275) (o := .cells #[.slice A0_0 l0_0.length c0_0, .string a0_1, .slice A0_2 l0_2.length c0_2] 27 (0, 0)) (by (with_reducible repeat (first | refine blk_drewN ?_ _ | refine blk_drew ?_ | refine blk_alloc ?_ _)); exact BK275.out) hb); have n3_ := Aside0.mk (below_step (by repeat (first | (with_reducible first | exact HB.out | apply below_alloc | apply pw_below_drewN | apply below_drew1 | refine below_set ?_ GE275.out) | exact HB.out)) hb); clear HO_3; clear BK275; clear HB; have HO_3 := n0_; have HO286 := n1_; have BK275 := n2_; have HB := n3_; clear n0_ n1_ n2_ n3_; (try clear hb); (try clear hb2); (try clear hk); (try clear hi); (try clear ho0); obtain ⟨Ao25, co25, eo25⟩ := Kd.R_slice HO286.out; subst eo25))
 go_wp2
 repeat (go_quiet (fail); try go_wp2)
 go_loopg [53] k2 (fun kq v53 w' => ∃ (x53_3 : Int), v53 = .int .i64 x53_3 ∧ Aside0 (antecedentlaw13_StrataAhead.l1 kq t279 x5_2 t284 (t284.length : Int) x53_3 l0_0 a0_1 l0_2 = some r) ∧ Aside0 (kq ≤ k2) ∧ Aside0 (Kd.S (Kd.slice 9 Kd.string) 34 w' w.heap.size (fun k_ => some k_ ≠ ((.slice Ao25 t284.length co25) : Value).ownBlock) (.slice Ao18 t279.length co18) t279) ∧ Aside0 (Kd.R Kd.string 9 w' w.heap.size (fun _ => True) (.slice Ao25 t284.length co25) t284) ∧ Aside0 (w'.heap[gb275]? = some (.cells #[(.slice A0_0 l0_0.length c0_0), .string a0_1, (.slice A0_2 l0_2.length c0_2)] 27 (0, 0))) ∧ Aside0 (Below w.heap.size w w'))
 case atStart => exact ⟨(0), (by first | rfl | (simp; done) | (simp [*]; done)), H', ⟨Nat.le_refl _⟩, ⟨by (with_reducible repeat (first | apply Kd.S_alloc | apply Kd.S_drewN | apply Kd.S_drew)); exact Kd.S_mono HO_3.out (fun _ hk => hk.2)⟩, ⟨by (with_reducible repeat (first | apply Kd.R_alloc | apply Kd.R_drewN | apply Kd.R_drew)); exact HO286.out⟩, ⟨by (with_reducible repeat (first | refine blk_drewN ?_ _ | refine blk_drew ?_ | refine blk_alloc ?_ _)); exact BK275.out⟩, ⟨by repeat (first | (with_reducible first | exact HB.out | apply below_alloc | apply pw_below_drewN | apply below_drew1 | refine below_set ?_ GE275.out) | exact HB.out)⟩⟩
 clear H'
 try clear c1
 try clear c2
 try clear p2
 try clear q2
 try clear hx2
 try clear c3
 try clear c5
 try clear p6
 try clear c8
 try clear c10
 try clear c11
 try clear c15
 try clear c15b0
 try clear c15b1
 try clear c19
 try clear c19b0
 try clear c20
 try clear c20b0
 try clear c21
 try clear c21b0
 try clear hcz16_0
 try clear hcz16_1
 try clear hcz16_2
 try clear hcz23_0
 try clear hcz23_1
 try clear hcz23_2
 try clear hcz8_0
 try clear hcz8_1
 try clear hcz8_2
 try clear hfz16_0
 try clear hfz16_1
 try clear hfz16_2
 try clear hfz23_0
 try clear hfz23_1
 try clear hfz23_2
 try clear hfz8_0
 try clear hfz8_1
 try clear hfz8_2
 try clear hx283_0
 try clear p2
 try clear p283
 try clear q283
 obtain ⟨x53_3, rfl, HA, HK3, HO_3, HO_7, BK275, HB⟩ := hrel
 obtain _ | k3 := gk
 · exact absurd HA.out (by simp [antecedentlaw13_StrataAhead.l1])
 have H := HA.out
 clear HA
 simp only [antecedentlaw13_StrataAhead.l1] at H
 by_cases c26 : x53_3 < (t284.length : Int)
 case pos =>
  rw [if_pos c26] at H
  have c26b0 := decide_eq_true c26
  clear c26
  by_cases c27 : 0 ≤ x53_3
  case neg => rw [if_neg c27] at H; exact absurd H (by simp)
  rw [if_pos c27] at H
  have c27b0 := decide_eq_true c27
  clear c27
  by_cases c28 : x53_3 < (t284.length : Int)
  case neg => rw [if_neg c28] at H; exact absurd H (by simp)
  rw [if_pos c28] at H
  have c28b0 := decide_eq_true c28
  clear c28
  replace H := Option.bind_eq_some_iff.mp H
  obtain ⟨t288, A290, H⟩ := H
  have A29 := Aside0.mk A290
  clear A290
  by_cases c30 : t288 < 0
  case pos =>
   rw [if_pos c30] at H
   have c30b0 := decide_eq_true c30
   clear c30
   obtain rfl := Option.some.inj H
   have p287 : 0 ≤ (x53_3 : Int) := of_decide_eq_true (by with_reducible assumption)
   have q287 : x53_3 < (t284.length : Int) := of_decide_eq_true (by with_reducible assumption)
   obtain ⟨ad287, e287, hx287_0⟩ := Kd.at_string (Kd.R_reads' HO_7.out).2.2 x53_3 p287 q287
   cases e287
   replace p287 := eq_true p287
   replace q287 := eq_true q287
   go_wp2_with (first | ((with_reducible refine gate_callee (f := 12) rfl ?_); refine goesL_ (some 61) rfl rfl Try.func12 (by kernel_rfl) rfl #[.slice Ao18 t279.length co18, .string (rdOf ByteArray.empty t284 x53_3)] rfl (by (try simp only [List.map_toArray, List.map_cons, List.map_nil]); first | done | rfl | (simp only [List.length_drop, List.length_take]; rfl)) ?_; (with_reducible refine (antecedentlaw13_place.calls k3 _ _ t279 (rdOf ByteArray.empty t284 x53_3) t288 _ ?side1 ?side2 A29.out).mono ?_); (case side1 => repeat (first | exact (Kd.S_reads' HO_3.out).2.2 | (with_reducible refine Kd.C_alloc ?_ _) | (with_reducible refine Kd.C_drewN ?_ _) | (with_reducible refine Kd.C_drew ?_))); (case side2 => exact (Kd.S_reads' HO_3.out).2.1); rintro e w' ⟨rfl, ⟨nd, rfl⟩⟩; refine ⟨_, rfl, ?_⟩))
   go_wp2
   repeat (go_quiet (fail); try go_wp2)
   go_ret
   exact ⟨by first | rfl | (simp [errW_none, errW_some] <;> rfl) | (simp [*, errW_none, errW_some] <;> rfl), by repeat (first | (with_reducible first | exact HB.out | apply below_alloc | apply pw_below_drewN | apply below_drew1 | refine below_set ?_ GE275.out) | exact HB.out)⟩
  rw [if_neg c30] at H
  have c30b0 := decide_eq_false c30
  clear c30
  have H' := Aside0.mk H
  clear H
  have p287 : 0 ≤ (x53_3 : Int) := of_decide_eq_true (by with_reducible assumption)
  have q287 : x53_3 < (t284.length : Int) := of_decide_eq_true (by with_reducible assumption)
  obtain ⟨ad287, e287, hx287_0⟩ := Kd.at_string (Kd.R_reads' HO_7.out).2.2 x53_3 p287 q287
  cases e287
  replace p287 := eq_true p287
  replace q287 := eq_true q287
  go_wp2_with (first | ((with_reducible refine gate_callee (f := 12) rfl ?_); refine goesL_ (some 61) rfl rfl Try.func12 (by kernel_rfl) rfl #[.slice Ao18 t279.length co18, .string (rdOf ByteArray.empty t284 x53_3)] rfl (by (try simp only [List.map_toArray, List.map_cons, List.map_nil]); first | done | rfl | (simp only [List.length_drop, List.length_take]; rfl)) ?_; (with_reducible refine (antecedentlaw13_place.calls k3 _ _ t279 (rdOf ByteArray.empty t284 x53_3) t288 _ ?side1 ?side2 A29.out).mono ?_); (case side1 => repeat (first | exact (Kd.S_reads' HO_3.out).2.2 | (with_reducible refine Kd.C_alloc ?_ _) | (with_reducible refine Kd.C_drewN ?_ _) | (with_reducible refine Kd.C_drew ?_))); (case side2 => exact (Kd.S_reads' HO_3.out).2.1); rintro e w' ⟨rfl, ⟨nd, rfl⟩⟩; refine ⟨_, rfl, ?_⟩))
  go_wp2
  repeat (go_quiet (fail); try go_wp2)
  go_roundg k3
  case measure => have := HJ1.out; have := HK2.out; have := HK3.out; omega
  case rel => exact ⟨(wrap64 (x53_3 + 1)), (by first | rfl | (simp; done) | (simp [*]; done)), H', ⟨by have := HJ1.out; have := HK2.out; have := HK3.out; omega⟩, ⟨by (with_reducible repeat (first | apply Kd.S_alloc | apply Kd.S_drewN | apply Kd.S_drew)); exact HO_3.out⟩, ⟨by (with_reducible repeat (first | apply Kd.R_alloc | apply Kd.R_drewN | apply Kd.R_drew)); exact HO_7.out⟩, ⟨by (with_reducible repeat (first | refine blk_drewN ?_ _ | refine blk_drew ?_ | refine blk_alloc ?_ _)); exact BK275.out⟩, ⟨by repeat (first | (with_reducible first | exact HB.out | apply below_alloc | apply pw_below_drewN | apply below_drew1 | refine below_set ?_ GE275.out) | exact HB.out)⟩⟩
 rw [if_neg c26] at H
 have c26b0 := decide_eq_false c26
 clear c26
 have H' := Aside0.mk H
 clear H
 have hcz31_0 : wr.cell? ⟨gb275, 0, none⟩ = some (.slice A0_0 l0_0.length c0_0) := (blk_cell BK275.out 0).trans rfl
 have hcz31_1 : wr.cell? ⟨gb275, 1, none⟩ = some (.string a0_1) := (blk_cell BK275.out 1).trans rfl
 have hcz31_2 : wr.cell? ⟨gb275, 2, none⟩ = some (.slice A0_2 l0_2.length c0_2) := (blk_cell BK275.out 2).trans rfl
 have hfz31_0 := blk_frozen BK275.out 0
 have hfz31_1 := blk_frozen BK275.out 1
 have hfz31_2 := blk_frozen BK275.out 2
 go_wp2
 go_wp2
 repeat (go_quiet (fail); try go_wp2)
 go_loopg [67] k3 (fun kq v67 w' => ∃ (x67_4 : Int), v67 = .int .i64 x67_4 ∧ Aside0 (antecedentlaw13_StrataAhead.l2 kq t279 x5_2 t284 (l0_0.length : Int) x67_4 l0_0 a0_1 l0_2 = some r) ∧ Aside0 (kq ≤ k3) ∧ Aside0 (Kd.S (Kd.slice 9 Kd.string) 34 w' w.heap.size (fun k_ => some k_ ≠ ((.slice Ao25 t284.length co25) : Value).ownBlock) (.slice Ao18 t279.length co18) t279) ∧ Aside0 (Kd.R Kd.string 9 w' w.heap.size (fun _ => True) (.slice Ao25 t284.length co25) t284) ∧ Aside0 (w'.heap[gb275]? = some (.cells #[(.slice A0_0 l0_0.length c0_0), .string a0_1, (.slice A0_2 l0_2.length c0_2)] 27 (0, 0))) ∧ Aside0 (Below w.heap.size w w'))
 case atStart => exact ⟨(0), (by first | rfl | (simp; done) | (simp [*]; done)), H', ⟨Nat.le_refl _⟩, ⟨by (with_reducible repeat (first | apply Kd.S_alloc | apply Kd.S_drewN | apply Kd.S_drew)); exact HO_3.out⟩, ⟨by (with_reducible repeat (first | apply Kd.R_alloc | apply Kd.R_drewN | apply Kd.R_drew)); exact HO_7.out⟩, ⟨by (with_reducible repeat (first | refine blk_drewN ?_ _ | refine blk_drew ?_ | refine blk_alloc ?_ _)); exact BK275.out⟩, ⟨by repeat (first | (with_reducible first | exact HB.out | apply below_alloc | apply pw_below_drewN | apply below_drew1 | refine below_set ?_ GE275.out) | exact HB.out)⟩⟩
 clear H'
 try clear c1
 try clear c2
 try clear p2
 try clear q2
 try clear hx2
 try clear c3
 try clear c5
 try clear p6
 try clear c8
 try clear c10
 try clear c11
 try clear c12
 try clear c15
 try clear c15b0
 try clear c15b1
 try clear c19
 try clear c19b0
 try clear c20
 try clear c20b0
 try clear c21
 try clear c21b0
 try clear c26
 try clear c26b0
 try clear c27
 try clear c27b0
 try clear c28
 try clear c28b0
 try clear p28
 try clear q28
 try clear hx28
 try clear c30
 try clear c30b0
 try clear hcz16_0
 try clear hcz16_1
 try clear hcz16_2
 try clear hcz23_0
 try clear hcz23_1
 try clear hcz23_2
 try clear hcz31_0
 try clear hcz31_1
 try clear hcz31_2
 try clear hcz8_0
 try clear hcz8_1
 try clear hcz8_2
 try clear hfz16_0
 try clear hfz16_1
 try clear hfz16_2
 try clear hfz23_0
 try clear hfz23_1
 try clear hfz23_2
 try clear hfz31_0
 try clear hfz31_1
 try clear hfz31_2
 try clear hfz8_0
 try clear hfz8_1
 try clear hfz8_2
 try clear hx283_0
 try clear hx287_0
 try clear p2
 try clear p283
 try clear p287
 try clear p6
 try clear q2
 try clear q283
 try clear q287
 obtain ⟨x67_4, rfl, HA, HK4, HO_3, HO_7, BK275, HB⟩ := hrel
 obtain _ | k4 := gk
 · exact absurd HA.out (by simp [antecedentlaw13_StrataAhead.l2])
 have H := HA.out
 clear HA
 simp only [antecedentlaw13_StrataAhead.l2] at H
 by_cases c32 : x67_4 < (l0_0.length : Int)
 case neg =>
  rw [if_neg c32] at H
  have c32b0 := decide_eq_false c32
  clear c32
  obtain rfl := Option.some.inj H
  go_wp2
  go_wp2
  repeat (go_quiet (fail); try go_wp2)
  go_ret
  exact ⟨by first | rfl | (simp [errW_none, errW_some] <;> rfl) | (simp [*, errW_none, errW_some] <;> rfl), by repeat (first | (with_reducible first | exact HB.out | apply below_alloc | apply pw_below_drewN | apply below_drew1 | refine below_set ?_ GE275.out) | exact HB.out)⟩
 rw [if_pos c32] at H
 have c32b0 := decide_eq_true c32
 clear c32
 by_cases c33 : 0 ≤ x67_4
 case neg => rw [if_neg c33] at H; exact absurd H (by simp)
 rw [if_pos c33] at H
 have c33b0 := decide_eq_true c33
 clear c33
 by_cases c34 : x67_4 < (l0_0.length : Int)
 case neg => rw [if_neg c34] at H; exact absurd H (by simp)
 rw [if_pos c34] at H
 have c34b0 := decide_eq_true c34
 clear c34
 replace H := Option.bind_eq_some_iff.mp H
 obtain ⟨t291, A350, H⟩ := H
 have A35 := Aside0.mk A350
 clear A350
 have H' := Aside0.mk H
 clear H
 have hcz36_0 : wr.cell? ⟨gb275, 0, none⟩ = some (.slice A0_0 l0_0.length c0_0) := (blk_cell BK275.out 0).trans rfl
 have hcz36_1 : wr.cell? ⟨gb275, 1, none⟩ = some (.string a0_1) := (blk_cell BK275.out 1).trans rfl
 have hcz36_2 : wr.cell? ⟨gb275, 2, none⟩ = some (.slice A0_2 l0_2.length c0_2) := (blk_cell BK275.out 2).trans rfl
 have hfz36_0 := blk_frozen BK275.out 0
 have hfz36_1 := blk_frozen BK275.out 1
 have hfz36_2 := blk_frozen BK275.out 2
 have p289 : 0 ≤ (x67_4 : Int) := of_decide_eq_true (by with_reducible assumption)
 have q289 : x67_4 < (l0_0.length : Int) := of_decide_eq_true (by with_reducible assumption)
 obtain ⟨ad289, A289_1, c289_1, A289_3, c289_3, e289, hx289_0, hx289_1, hx289_2, hx289_3, hl289_1, hi289_1, hl289_3, hi289_3⟩ := at_T39 HR0_0.out x67_4 p289 q289
 cases e289
 replace hx289_0 := (HB.out.cell (World.block_lt_of_cell? w _ hx289_0)).trans hx289_0
 replace hx289_1 := (HB.out.cell (World.block_lt_of_cell? w _ hx289_1)).trans hx289_1
 replace hx289_2 := (HB.out.cell (World.block_lt_of_cell? w _ hx289_2)).trans hx289_2
 replace hx289_3 := (HB.out.cell (World.block_lt_of_cell? w _ hx289_3)).trans hx289_3
 have HR289_1 := Aside0.mk hi289_1
 have HC289_1 := Aside0.mk hl289_1
 clear hi289_1 hl289_1
 have HR289_3 := Aside0.mk hi289_3
 have HC289_3 := Aside0.mk hl289_3
 clear hi289_3 hl289_3
 replace p289 := eq_true p289
 replace q289 := eq_true q289
 go_wp2_with (first | ((with_reducible refine gate_dst (N := 10) rfl ?_); refine box_event ?hg (N := 10) ?hd (cs := #[.string (⟨#[]⟩ : ByteArray), .slice none 0 0, .int .i64 0, .slice none 0 0]) (t := 39) ?hr ?_; (case hd => rfl); (case hg => rfl); (case hr => first | (go_simp; done) | (go_simp; rfl)); intro gb290 hg w37 hbox hb; have n0_ := Aside0.mk (Kd.S_below (by (with_reducible repeat (first | apply Kd.S_alloc | apply Kd.S_drewN | apply Kd.S_drew)); exact HO_3.out) hb); have n1_ := Aside0.mk (Kd.R_below (by (with_reducible repeat (first | apply Kd.R_alloc | apply Kd.R_drewN | apply Kd.R_drew)); exact HO_7.out) hb); have n2_ := Aside0.mk (blk_below (g := gb275) (o := .cells #[.slice (some ad289) l0_0.length c0_0, .string a0_1, .slice A0_2 l0_2.length c0_2] 27 (0, 0)) (by (with_reducible repeat (first | refine blk_drewN ?_ _ | refine blk_drew ?_ | refine blk_alloc ?_ _)); exact BK275.out) hb); have n3_ := Aside0.mk (below_step (by repeat (first | (with_reducible first | exact HB.out | apply below_alloc | apply pw_below_drewN | apply below_drew1 | refine below_set ?_ GE275.out) | exact HB.out)) hb); have n4_ := Aside0.mk (hbox); have n5_ := Aside0.mk ((by rw [hg]; exact (below_size (by repeat (first | (with_reducible first | exact HB.out | apply below_alloc | apply pw_below_drewN | apply below_drew1 | refine below_set ?_ GE275.out) | exact HB.out))) : w.heap.size ≤ gb290)); have n6_ := Aside0.mk ((by rw [hg]; exact (below_size (by repeat (first | (with_reducible first | exact HB.out | apply below_alloc | apply pw_below_drewN | apply below_drew1 | refine below_set ?_ GE275.out) | exact HB.out))) : w.heap.size ≤ gb290)); have n7_ := Aside0.mk ((by rw [hg]; exact Nat.ne_of_lt (blk_lt (g := gb275) (o := .cells #[.slice (some ad289) l0_0.length c0_0, .string a0_1, .slice A0_2 l0_2.length c0_2] 27 (0, 0)) (by (with_reducible repeat (first | refine blk_drewN ?_ _ | refine blk_drew ?_ | refine blk_alloc ?_ _)); exact BK275.out)) : gb275 ≠ gb290)); have n8_ := Aside0.mk ((by rw [hg]; exact Nat.ne_of_gt (blk_lt (g := gb275) (o := .cells #[.slice (some ad289) l0_0.length c0_0, .string a0_1, .slice A0_2 l0_2.length c0_2] 27 (0, 0)) (by (with_reducible repeat (first | refine blk_drewN ?_ _ | refine blk_drew ?_ | refine blk_alloc ?_ _)); exact BK275.out)) : gb290 ≠ gb275)); clear HO_3; clear HO_7; clear BK275; clear HB; have HO_3 := n0_; have HO_7 := n1_; have BK275 := n2_; have HB := n3_; have BK290 := n4_; have GW290 := n5_; have GE290 := n6_; have NB275_290 := n7_; have NB290_275 := n8_; clear n0_ n1_ n2_ n3_ n4_ n5_ n6_ n7_ n8_; clear hb hbox hg; have hnb38 := NB290_275.out; have hnc38 := NB275_290.out; have hcz39_0 : w37.cell? ⟨gb290, 0, none⟩ = some (.string (⟨#[]⟩ : ByteArray)) := (blk_cell BK290.out 0).trans rfl; have hcz39_1 : w37.cell? ⟨gb290, 1, none⟩ = some (.slice none 0 0) := (blk_cell BK290.out 1).trans rfl; have hcz39_2 : w37.cell? ⟨gb290, 2, none⟩ = some (.int .i64 0) := (blk_cell BK290.out 2).trans rfl; have hcz39_3 : w37.cell? ⟨gb290, 3, none⟩ = some (.slice none 0 0) := (blk_cell BK290.out 3).trans rfl; have hfz39_0 := blk_frozen BK290.out 0; have hfz39_1 := blk_frozen BK290.out 1; have hfz39_2 := blk_frozen BK290.out 2; have hfz39_3 := blk_frozen BK290.out 3) | ((with_reducible refine gate_callee (f := 12) rfl ?_); refine goesL_ (some 79) rfl rfl Try.func12 (by kernel_rfl) rfl #[.slice Ao18 t279.length co18, .string ((rd_T39 l0_0 x67_4).f0.f0)] rfl (by (try simp only [List.map_toArray, List.map_cons, List.map_nil]); first | done | rfl | (simp only [List.length_drop, List.length_take]; rfl)) ?_; (with_reducible refine (antecedentlaw13_place.calls k4 _ _ t279 ((rd_T39 l0_0 x67_4).f0.f0) t291 _ ?side1 ?side2 A35.out).mono ?_); (case side1 => refine (Kd.S_reads' (e := 34) (base := w.heap.size) (ok := fun k_ => some k_ ≠ (.slice Ao25 t284.length co25 : Value).ownBlock) (n := t279.length) (c := co18) ?_).2.2; exact (by (with_reducible repeat (first | apply Kd.S_alloc | apply Kd.S_drewN | apply Kd.S_drew)); exact (Kd.S_mono (Kd.S_far (p := ⟨gb290, 3, none⟩) (Kd.S_far (p := ⟨gb290, 2, none⟩) (Kd.S_far (p := ⟨gb290, 1, none⟩) (Kd.S_far (p := ⟨gb290, 0, none⟩) (Kd.S_types HO_3.out BK290.out (by decide)) (fun _ hk => hk.2) (.string ((rd_T39 l0_0 x67_4).f0.f0))) (fun _ hk => hk.2) (.slice A289_1 ((rd_T39 l0_0 x67_4).f0.f1).length c289_1)) (fun _ hk => hk.2) (.int .i64 ((rd_T39 l0_0 x67_4).f1))) (fun _ hk => hk.2) (.slice A289_3 ((rd_T39 l0_0 x67_4).f2).length c289_3)) (fun _ h_ => h_.1)))); (case side2 => exact (Kd.S_reads' HO_3.out).2.1); rintro e w' ⟨rfl, ⟨nd, rfl⟩⟩; refine ⟨_, rfl, ?_⟩))
 go_wp2
 repeat (go_quiet (fail); try go_wp2)
 go_loopg [12, 86] k4 (fun kq v12 v86 w' => ∃ (x12_5 : Bool) (x86_5 : Int), v12 = .bool x12_5 ∧ v86 = .int .i64 x86_5 ∧ Aside0 (antecedentlaw13_StrataAhead.l3 kq t279 x5_2 t284 t291 x12_5 (l0_0.length : Int) x67_4 (((rd_T39 l0_0 x67_4).f2).length : Int) x86_5 l0_0 a0_1 l0_2 ((rd_T39 l0_0 x67_4).f0.f0) ((rd_T39 l0_0 x67_4).f0.f1) ((rd_T39 l0_0 x67_4).f1) ((rd_T39 l0_0 x67_4).f2) = some r) ∧ Aside0 (kq ≤ k4) ∧ Aside0 (Kd.S (Kd.slice 9 Kd.string) 34 w' w.heap.size (fun k_ => some k_ ≠ ((.slice Ao25 t284.length co25) : Value).ownBlock) (.slice Ao18 t279.length co18) t279) ∧ Aside0 (Kd.R Kd.string 9 w' w.heap.size (fun _ => True) (.slice Ao25 t284.length co25) t284) ∧ Aside0 (w'.heap[gb275]? = some (.cells #[(.slice (some ad289) l0_0.length c0_0), .string a0_1, (.slice A0_2 l0_2.length c0_2)] 27 (0, 0))) ∧ Aside0 (w'.heap[gb290]? = some (.cells #[.string ((rd_T39 l0_0 x67_4).f0.f0), (.slice A289_1 ((rd_T39 l0_0 x67_4).f0.f1).length c289_1), .int .i64 ((rd_T39 l0_0 x67_4).f1), (.slice A289_3 ((rd_T39 l0_0 x67_4).f2).length c289_3)] 39 (0, 0))) ∧ Aside0 (Below w.heap.size w w'))
 case atStart => exact ⟨(decide (((rd_T39 l0_0 x67_4).f1) > 0)), (0), (by first | rfl | (simp; done) | (simp [*]; done)), (by first | rfl | (simp; done) | (simp [*]; done)), H', ⟨Nat.le_refl _⟩, ⟨by (with_reducible repeat (first | apply Kd.S_alloc | apply Kd.S_drewN | apply Kd.S_drew)); exact Kd.S_mono (Kd.S_far (p := ⟨gb290, 3, none⟩) (Kd.S_far (p := ⟨gb290, 2, none⟩) (Kd.S_far (p := ⟨gb290, 1, none⟩) (Kd.S_far (p := ⟨gb290, 0, none⟩) (Kd.S_types HO_3.out BK290.out (by decide)) (fun _ hk => hk.2) (.string ((rd_T39 l0_0 x67_4).f0.f0))) (fun _ hk => hk.2) (.slice A289_1 ((rd_T39 l0_0 x67_4).f0.f1).length c289_1)) (fun _ hk => hk.2) (.int .i64 ((rd_T39 l0_0 x67_4).f1))) (fun _ hk => hk.2) (.slice A289_3 ((rd_T39 l0_0 x67_4).f2).length c289_3)) (fun _ hk => hk.1)⟩, ⟨by (with_reducible repeat (first | apply Kd.R_alloc | apply Kd.R_drewN | apply Kd.R_drew)); exact Kd.R_mono (Kd.R_far (p := ⟨gb290, 3, none⟩) (Kd.R_far (p := ⟨gb290, 2, none⟩) (Kd.R_far (p := ⟨gb290, 1, none⟩) (Kd.R_far (p := ⟨gb290, 0, none⟩) (Kd.R_types HO_7.out BK290.out (by decide)) (fun _ hk => hk.2) (.string ((rd_T39 l0_0 x67_4).f0.f0))) (fun _ hk => hk.2) (.slice A289_1 ((rd_T39 l0_0 x67_4).f0.f1).length c289_1)) (fun _ hk => hk.2) (.int .i64 ((rd_T39 l0_0 x67_4).f1))) (fun _ hk => hk.2) (.slice A289_3 ((rd_T39 l0_0 x67_4).f2).length c289_3)) (fun _ hk => trivial)⟩, ⟨by (with_reducible repeat (first | refine blk_drewN ?_ _ | refine blk_drew ?_ | refine blk_alloc ?_ _)); refine blk_far ?_ NB275_290.out _; (with_reducible repeat (first | refine blk_drewN ?_ _ | refine blk_drew ?_ | refine blk_alloc ?_ _)); refine blk_far ?_ NB275_290.out _; (with_reducible repeat (first | refine blk_drewN ?_ _ | refine blk_drew ?_ | refine blk_alloc ?_ _)); refine blk_far ?_ NB275_290.out _; (with_reducible repeat (first | refine blk_drewN ?_ _ | refine blk_drew ?_ | refine blk_alloc ?_ _)); refine blk_far ?_ NB275_290.out _; (with_reducible repeat (first | refine blk_drewN ?_ _ | refine blk_drew ?_ | refine blk_alloc ?_ _)); exact BK275.out⟩, ⟨by (with_reducible repeat (first | refine blk_drewN ?_ _ | refine blk_drew ?_ | refine blk_alloc ?_ _)); refine blk_put (cs := #[.string ((rd_T39 l0_0 x67_4).f0.f0), .slice A289_1 ((rd_T39 l0_0 x67_4).f0.f1).length c289_1, .int .i64 ((rd_T39 l0_0 x67_4).f1), .slice none 0 0]) ?_ 3 _ rfl; (with_reducible repeat (first | refine blk_drewN ?_ _ | refine blk_drew ?_ | refine blk_alloc ?_ _)); refine blk_put (cs := #[.string ((rd_T39 l0_0 x67_4).f0.f0), .slice A289_1 ((rd_T39 l0_0 x67_4).f0.f1).length c289_1, .int .i64 0, .slice none 0 0]) ?_ 2 _ rfl; (with_reducible repeat (first | refine blk_drewN ?_ _ | refine blk_drew ?_ | refine blk_alloc ?_ _)); refine blk_put (cs := #[.string ((rd_T39 l0_0 x67_4).f0.f0), .slice none 0 0, .int .i64 0, .slice none 0 0]) ?_ 1 _ rfl; (with_reducible repeat (first | refine blk_drewN ?_ _ | refine blk_drew ?_ | refine blk_alloc ?_ _)); refine blk_put (cs := #[.string (⟨#[]⟩ : ByteArray), .slice none 0 0, .int .i64 0, .slice none 0 0]) ?_ 0 _ rfl; (with_reducible repeat (first | refine blk_drewN ?_ _ | refine blk_drew ?_ | refine blk_alloc ?_ _)); exact BK290.out⟩, ⟨by repeat (first | (with_reducible first | exact HB.out | apply below_alloc | apply pw_below_drewN | apply below_drew1 | refine below_set ?_ GE275.out | refine below_set ?_ GE290.out) | exact HB.out)⟩⟩
 clear H'
 try clear c1
 try clear c2
 try clear p2
 try clear q2
 try clear hx2
 try clear c3
 try clear c5
 try clear p6
 try clear c8
 try clear c10
 try clear c11
 try clear c12
 try clear c15
 try clear c15b0
 try clear c15b1
 try clear c19
 try clear c19b0
 try clear c20
 try clear c20b0
 try clear c21
 try clear c21b0
 try clear c26
 try clear c26b0
 try clear c27
 try clear c27b0
 try clear c28
 try clear c28b0
 try clear p28
 try clear q28
 try clear hx28
 try clear c30
 try clear c30b0
 try clear c32
 try clear c32b0
 try clear c33
 try clear c33b0
 try clear c34
 try clear c34b0
 try clear c38
 try clear hcz16_0
 try clear hcz16_1
 try clear hcz16_2
 try clear hcz23_0
 try clear hcz23_1
 try clear hcz23_2
 try clear hcz31_0
 try clear hcz31_1
 try clear hcz31_2
 try clear hcz36_0
 try clear hcz36_1
 try clear hcz36_2
 try clear hcz39_0
 try clear hcz39_1
 try clear hcz39_2
 try clear hcz39_3
 try clear hcz8_0
 try clear hcz8_1
 try clear hcz8_2
 try clear hfz16_0
 try clear hfz16_1
 try clear hfz16_2
 try clear hfz23_0
 try clear hfz23_1
 try clear hfz23_2
 try clear hfz31_0
 try clear hfz31_1
 try clear hfz31_2
 try clear hfz36_0
 try clear hfz36_1
 try clear hfz36_2
 try clear hfz39_0
 try clear hfz39_1
 try clear hfz39_2
 try clear hfz39_3
 try clear hfz8_0
 try clear hfz8_1
 try clear hfz8_2
 try clear hx283_0
 try clear hx287_0
 try clear hx289_0
 try clear hx289_1
 try clear hx289_2
 try clear hx289_3
 try clear p2
 try clear p28
 try clear p283
 try clear p287
 try clear p289
 try clear p6
 try clear q2
 try clear q28
 try clear q283
 try clear q287
 try clear q289
 obtain ⟨x12_5, x86_5, rfl, rfl, HA, HK5, HO_3, HO_7, BK275, BK290, HB⟩ := hrel
 obtain _ | k5 := gk
 · exact absurd HA.out (by simp [antecedentlaw13_StrataAhead.l3])
 have H := HA.out
 clear HA
 simp only [antecedentlaw13_StrataAhead.l3] at H
 by_cases c40 : x86_5 < (((rd_T39 l0_0 x67_4).f2).length : Int)
 case pos =>
  rw [if_pos c40] at H
  have c40b0 := decide_eq_true c40
  clear c40
  by_cases c41 : x12_5 = true
  case pos =>
   subst c41
   rw [if_pos rfl] at H
   have H' := Aside0.mk H
   clear H
   go_wp2
   go_wp2
   repeat (go_quiet (fail); try go_wp2)
   go_roundg k5
   case measure => have := HJ1.out; have := HK2.out; have := HK3.out; have := HK4.out; have := HK5.out; omega
   case rel => exact ⟨(true), (wrap64 (x86_5 + 1)), (by first | rfl | (simp; done) | (simp [*]; done)), (by first | rfl | (simp; done) | (simp [*]; done)), H', ⟨by have := HJ1.out; have := HK2.out; have := HK3.out; have := HK4.out; have := HK5.out; omega⟩, ⟨by (with_reducible repeat (first | apply Kd.S_alloc | apply Kd.S_drewN | apply Kd.S_drew)); exact HO_3.out⟩, ⟨by (with_reducible repeat (first | apply Kd.R_alloc | apply Kd.R_drewN | apply Kd.R_drew)); exact HO_7.out⟩, ⟨by (with_reducible repeat (first | refine blk_drewN ?_ _ | refine blk_drew ?_ | refine blk_alloc ?_ _)); exact BK275.out⟩, ⟨by (with_reducible repeat (first | refine blk_drewN ?_ _ | refine blk_drew ?_ | refine blk_alloc ?_ _)); exact BK290.out⟩, ⟨by repeat (first | (with_reducible first | exact HB.out | apply below_alloc | apply pw_below_drewN | apply below_drew1 | refine below_set ?_ GE275.out | refine below_set ?_ GE290.out) | exact HB.out)⟩⟩
  replace c41 := Bool.eq_false_iff.mpr c41
  subst c41
  rw [if_neg (show ¬ (false = true) by decide)] at H
  by_cases c42 : 0 ≤ x86_5
  case neg => rw [if_neg c42] at H; exact absurd H (by simp)
  rw [if_pos c42] at H
  have c42b0 := decide_eq_true c42
  clear c42
  by_cases c43 : x86_5 < (((rd_T39 l0_0 x67_4).f2).length : Int)
  case neg => rw [if_neg c43] at H; exact absurd H (by simp)
  rw [if_pos c43] at H
  have c43b0 := decide_eq_true c43
  clear c43
  have H' := Aside0.mk H
  clear H
  have hnb44 := NB290_275.out
  have hnc44 := NB275_290.out
  have hcz45_0 : wr.cell? ⟨gb290, 0, none⟩ = some (.string ((rd_T39 l0_0 x67_4).f0.f0)) := (blk_cell BK290.out 0).trans rfl
  have hcz45_1 : wr.cell? ⟨gb290, 1, none⟩ = some (.slice A289_1 ((rd_T39 l0_0 x67_4).f0.f1).length c289_1) := (blk_cell BK290.out 1).trans rfl
  have hcz45_2 : wr.cell? ⟨gb290, 2, none⟩ = some (.int .i64 ((rd_T39 l0_0 x67_4).f1)) := (blk_cell BK290.out 2).trans rfl
  have hcz45_3 : wr.cell? ⟨gb290, 3, none⟩ = some (.slice A289_3 ((rd_T39 l0_0 x67_4).f2).length c289_3) := (blk_cell BK290.out 3).trans rfl
  have hfz45_0 := blk_frozen BK290.out 0
  have hfz45_1 := blk_frozen BK290.out 1
  have hfz45_2 := blk_frozen BK290.out 2
  have hfz45_3 := blk_frozen BK290.out 3
  have p292 : 0 ≤ (x86_5 : Int) := of_decide_eq_true (by with_reducible assumption)
  have q292 : x86_5 < (((rd_T39 l0_0 x67_4).f2).length : Int) := of_decide_eq_true (by with_reducible assumption)
  obtain ⟨ad292, A292_2, c292_2, A292_16, c292_16, e292, hx292_0, hx292_1, hx292_2, hx292_3, hx292_4, hx292_5, hx292_6, hx292_7, hx292_8, hx292_9, hx292_10, hx292_11, hx292_12, hx292_13, hx292_14, hx292_15, hx292_16, hl292_2, hi292_2, hl292_16, hi292_16⟩ := at_T46 HR289_3.out x86_5 p292 q292
  cases e292
  replace hx292_0 := (HB.out.cell (World.block_lt_of_cell? w _ hx292_0)).trans hx292_0
  replace hx292_1 := (HB.out.cell (World.block_lt_of_cell? w _ hx292_1)).trans hx292_1
  replace hx292_2 := (HB.out.cell (World.block_lt_of_cell? w _ hx292_2)).trans hx292_2
  replace hx292_3 := (HB.out.cell (World.block_lt_of_cell? w _ hx292_3)).trans hx292_3
  replace hx292_4 := (HB.out.cell (World.block_lt_of_cell? w _ hx292_4)).trans hx292_4
  replace hx292_5 := (HB.out.cell (World.block_lt_of_cell? w _ hx292_5)).trans hx292_5
  replace hx292_6 := (HB.out.cell (World.block_lt_of_cell? w _ hx292_6)).trans hx292_6
  replace hx292_7 := (HB.out.cell (World.block_lt_of_cell? w _ hx292_7)).trans hx292_7
  replace hx292_8 := (HB.out.cell (World.block_lt_of_cell? w _ hx292_8)).trans hx292_8
  replace hx292_9 := (HB.out.cell (World.block_lt_of_cell? w _ hx292_9)).trans hx292_9
  replace hx292_10 := (HB.out.cell (World.block_lt_of_cell? w _ hx292_10)).trans hx292_10
  replace hx292_11 := (HB.out.cell (World.block_lt_of_cell? w _ hx292_11)).trans hx292_11
  replace hx292_12 := (HB.out.cell (World.block_lt_of_cell? w _ hx292_12)).trans hx292_12
  replace hx292_13 := (HB.out.cell (World.block_lt_of_cell? w _ hx292_13)).trans hx292_13
  replace hx292_14 := (HB.out.cell (World.block_lt_of_cell? w _ hx292_14)).trans hx292_14
  replace hx292_15 := (HB.out.cell (World.block_lt_of_cell? w _ hx292_15)).trans hx292_15
  replace hx292_16 := (HB.out.cell (World.block_lt_of_cell? w _ hx292_16)).trans hx292_16
  have HR292_2 := Aside0.mk hi292_2
  have HC292_2 := Aside0.mk hl292_2
  clear hi292_2 hl292_2
  have HR292_16 := Aside0.mk hi292_16
  have HC292_16 := Aside0.mk hl292_16
  clear hi292_16 hl292_16
  replace p292 := eq_true p292
  replace q292 := eq_true q292
  go_wp2
  go_wp2
  repeat (go_quiet (fail); try go_wp2)
  go_roundg k5
  case measure => have := HJ1.out; have := HK2.out; have := HK3.out; have := HK4.out; have := HK5.out; omega
  case rel => exact ⟨((((rd_T46 ((rd_T39 l0_0 x67_4).f2) x86_5).f0) == 4)), (wrap64 (x86_5 + 1)), (by first | rfl | (simp; done) | (simp [*]; done)), (by first | rfl | (simp; done) | (simp [*]; done)), H', ⟨by have := HJ1.out; have := HK2.out; have := HK3.out; have := HK4.out; have := HK5.out; omega⟩, ⟨by (with_reducible repeat (first | apply Kd.S_alloc | apply Kd.S_drewN | apply Kd.S_drew)); exact HO_3.out⟩, ⟨by (with_reducible repeat (first | apply Kd.R_alloc | apply Kd.R_drewN | apply Kd.R_drew)); exact HO_7.out⟩, ⟨by (with_reducible repeat (first | refine blk_drewN ?_ _ | refine blk_drew ?_ | refine blk_alloc ?_ _)); exact BK275.out⟩, ⟨by (with_reducible repeat (first | refine blk_drewN ?_ _ | refine blk_drew ?_ | refine blk_alloc ?_ _)); exact BK290.out⟩, ⟨by repeat (first | (with_reducible first | exact HB.out | apply below_alloc | apply pw_below_drewN | apply below_drew1 | refine below_set ?_ GE275.out | refine below_set ?_ GE290.out) | exact HB.out)⟩⟩
 rw [if_neg c40] at H
 have c40b0 := decide_eq_false c40
 clear c40
 have H' := Aside0.mk H
 clear H
 have hnb46 := NB290_275.out
 have hnc46 := NB275_290.out
 have hcz47_0 : wr.cell? ⟨gb290, 0, none⟩ = some (.string ((rd_T39 l0_0 x67_4).f0.f0)) := (blk_cell BK290.out 0).trans rfl
 have hcz47_1 : wr.cell? ⟨gb290, 1, none⟩ = some (.slice A289_1 ((rd_T39 l0_0 x67_4).f0.f1).length c289_1) := (blk_cell BK290.out 1).trans rfl
 have hcz47_2 : wr.cell? ⟨gb290, 2, none⟩ = some (.int .i64 ((rd_T39 l0_0 x67_4).f1)) := (blk_cell BK290.out 2).trans rfl
 have hcz47_3 : wr.cell? ⟨gb290, 3, none⟩ = some (.slice A289_3 ((rd_T39 l0_0 x67_4).f2).length c289_3) := (blk_cell BK290.out 3).trans rfl
 have hfz47_0 := blk_frozen BK290.out 0
 have hfz47_1 := blk_frozen BK290.out 1
 have hfz47_2 := blk_frozen BK290.out 2
 have hfz47_3 := blk_frozen BK290.out 3
 go_wp2
 go_wp2
 repeat (go_quiet (fail); try go_wp2)
 go_loopg [103] k5 (fun kq v103 w' => ∃ (x103_6 : Int), v103 = .int .i64 x103_6 ∧ Aside0 (antecedentlaw13_StrataAhead.l4 kq t279 x5_2 t284 t291 x12_5 (l0_0.length : Int) x67_4 (((rd_T39 l0_0 x67_4).f2).length : Int) x103_6 l0_0 a0_1 l0_2 ((rd_T39 l0_0 x67_4).f0.f0) ((rd_T39 l0_0 x67_4).f0.f1) ((rd_T39 l0_0 x67_4).f1) ((rd_T39 l0_0 x67_4).f2) = some r) ∧ Aside0 (kq ≤ k5) ∧ Aside0 (Kd.S (Kd.slice 9 Kd.string) 34 w' w.heap.size (fun k_ => some k_ ≠ ((.slice Ao25 t284.length co25) : Value).ownBlock) (.slice Ao18 t279.length co18) t279) ∧ Aside0 (Kd.R Kd.string 9 w' w.heap.size (fun _ => True) (.slice Ao25 t284.length co25) t284) ∧ Aside0 (w'.heap[gb275]? = some (.cells #[(.slice (some ad289) l0_0.length c0_0), .string a0_1, (.slice A0_2 l0_2.length c0_2)] 27 (0, 0))) ∧ Aside0 (w'.heap[gb290]? = some (.cells #[.string ((rd_T39 l0_0 x67_4).f0.f0), (.slice A289_1 ((rd_T39 l0_0 x67_4).f0.f1).length c289_1), .int .i64 ((rd_T39 l0_0 x67_4).f1), (.slice A289_3 ((rd_T39 l0_0 x67_4).f2).length c289_3)] 39 (0, 0))) ∧ Aside0 (Below w.heap.size w w'))
 case atStart => exact ⟨(0), (by first | rfl | (simp; done) | (simp [*]; done)), H', ⟨Nat.le_refl _⟩, ⟨by (with_reducible repeat (first | apply Kd.S_alloc | apply Kd.S_drewN | apply Kd.S_drew)); exact HO_3.out⟩, ⟨by (with_reducible repeat (first | apply Kd.R_alloc | apply Kd.R_drewN | apply Kd.R_drew)); exact HO_7.out⟩, ⟨by (with_reducible repeat (first | refine blk_drewN ?_ _ | refine blk_drew ?_ | refine blk_alloc ?_ _)); exact BK275.out⟩, ⟨by (with_reducible repeat (first | refine blk_drewN ?_ _ | refine blk_drew ?_ | refine blk_alloc ?_ _)); exact BK290.out⟩, ⟨by repeat (first | (with_reducible first | exact HB.out | apply below_alloc | apply pw_below_drewN | apply below_drew1 | refine below_set ?_ GE275.out | refine below_set ?_ GE290.out) | exact HB.out)⟩⟩
 clear H'
 try clear c1
 try clear c2
 try clear p2
 try clear q2
 try clear hx2
 try clear c3
 try clear c4
 try clear c5
 try clear p6
 try clear c8
 try clear c10
 try clear c11
 try clear c12
 try clear c15
 try clear c15b0
 try clear c15b1
 try clear c19
 try clear c19b0
 try clear c20
 try clear c20b0
 try clear c21
 try clear c21b0
 try clear c26
 try clear c26b0
 try clear c27
 try clear c27b0
 try clear c28
 try clear c28b0
 try clear p28
 try clear q28
 try clear hx28
 try clear c29
 try clear p29
 try clear q29
 try clear hx29
 try clear c30
 try clear c30b0
 try clear c32
 try clear c32b0
 try clear c33
 try clear c33b0
 try clear c34
 try clear c34b0
 try clear c38
 try clear c40
 try clear c40b0
 try clear c41
 try clear c42
 try clear c42b0
 try clear c43
 try clear c43b0
 try clear c44
 try clear c46
 try clear hcz16_0
 try clear hcz16_1
 try clear hcz16_2
 try clear hcz23_0
 try clear hcz23_1
 try clear hcz23_2
 try clear hcz31_0
 try clear hcz31_1
 try clear hcz31_2
 try clear hcz36_0
 try clear hcz36_1
 try clear hcz36_2
 try clear hcz39_0
 try clear hcz39_1
 try clear hcz39_2
 try clear hcz39_3
 try clear hcz45_0
 try clear hcz45_1
 try clear hcz45_2
 try clear hcz45_3
 try clear hcz47_0
 try clear hcz47_1
 try clear hcz47_2
 try clear hcz47_3
 try clear hcz8_0
 try clear hcz8_1
 try clear hcz8_2
 try clear hfz16_0
 try clear hfz16_1
 try clear hfz16_2
 try clear hfz23_0
 try clear hfz23_1
 try clear hfz23_2
 try clear hfz31_0
 try clear hfz31_1
 try clear hfz31_2
 try clear hfz36_0
 try clear hfz36_1
 try clear hfz36_2
 try clear hfz39_0
 try clear hfz39_1
 try clear hfz39_2
 try clear hfz39_3
 try clear hfz45_0
 try clear hfz45_1
 try clear hfz45_2
 try clear hfz45_3
 try clear hfz47_0
 try clear hfz47_1
 try clear hfz47_2
 try clear hfz47_3
 try clear hfz8_0
 try clear hfz8_1
 try clear hfz8_2
 try clear hx283_0
 try clear hx287_0
 try clear hx289_0
 try clear hx289_1
 try clear hx289_2
 try clear hx289_3
 try clear hx292_0
 try clear hx292_1
 try clear hx292_10
 try clear hx292_11
 try clear hx292_12
 try clear hx292_13
 try clear hx292_14
 try clear hx292_15
 try clear hx292_16
 try clear hx292_2
 try clear hx292_3
 try clear hx292_4
 try clear hx292_5
 try clear hx292_6
 try clear hx292_7
 try clear hx292_8
 try clear hx292_9
 try clear p2
 try clear p28
 try clear p283
 try clear p287
 try clear p289
 try clear p292
 try clear p6
 try clear q2
 try clear q28
 try clear q283
 try clear q287
 try clear q289
 try clear q292
 obtain ⟨x103_6, rfl, HA, HK6, HO_3, HO_7, BK275, BK290, HB⟩ := hrel
 obtain _ | k6 := gk
 · exact absurd HA.out (by simp [antecedentlaw13_StrataAhead.l4])
 have H := HA.out
 clear HA
 simp only [antecedentlaw13_StrataAhead.l4] at H
 by_cases c48 : x103_6 < (((rd_T39 l0_0 x67_4).f2).length : Int)
 case neg =>
  rw [if_neg c48] at H
  have c48b0 := decide_eq_false c48
  clear c48
  have H' := Aside0.mk H
  clear H
  go_wp2
  go_wp2
  repeat (go_quiet (fail); try go_wp2)
  go_roundg k6
  case measure => have := HJ1.out; have := HK2.out; have := HK3.out; have := HK4.out; have := HK5.out; have := HK6.out; omega
  case rel => exact ⟨(wrap64 (x67_4 + 1)), (by first | rfl | (simp; done) | (simp [*]; done)), H', ⟨by have := HJ1.out; have := HK2.out; have := HK3.out; have := HK4.out; have := HK5.out; have := HK6.out; omega⟩, ⟨by (with_reducible repeat (first | apply Kd.S_alloc | apply Kd.S_drewN | apply Kd.S_drew)); exact HO_3.out⟩, ⟨by (with_reducible repeat (first | apply Kd.R_alloc | apply Kd.R_drewN | apply Kd.R_drew)); exact HO_7.out⟩, ⟨by (with_reducible repeat (first | refine blk_drewN ?_ _ | refine blk_drew ?_ | refine blk_alloc ?_ _)); exact BK275.out⟩, ⟨by repeat (first | (with_reducible first | exact HB.out | apply below_alloc | apply pw_below_drewN | apply below_drew1 | refine below_set ?_ GE275.out | refine below_set ?_ GE290.out) | exact HB.out)⟩⟩
 rw [if_pos c48] at H
 have c48b0 := decide_eq_true c48
 clear c48
 by_cases c49 : 0 ≤ x103_6
 case neg => rw [if_neg c49] at H; exact absurd H (by simp)
 rw [if_pos c49] at H
 have c49b0 := decide_eq_true c49
 clear c49
 by_cases c50 : x103_6 < (((rd_T39 l0_0 x67_4).f2).length : Int)
 case neg => rw [if_neg c50] at H; exact absurd H (by simp)
 rw [if_pos c50] at H
 have c50b0 := decide_eq_true c50
 clear c50
 replace H := Option.bind_eq_some_iff.mp H
 obtain ⟨t294, A510, H⟩ := H
 have A51 := Aside0.mk A510
 clear A510
 have H' := Aside0.mk H
 clear H
 have hnb52 := NB290_275.out
 have hnc52 := NB275_290.out
 have hcz53_0 : wr.cell? ⟨gb290, 0, none⟩ = some (.string ((rd_T39 l0_0 x67_4).f0.f0)) := (blk_cell BK290.out 0).trans rfl
 have hcz53_1 : wr.cell? ⟨gb290, 1, none⟩ = some (.slice A289_1 ((rd_T39 l0_0 x67_4).f0.f1).length c289_1) := (blk_cell BK290.out 1).trans rfl
 have hcz53_2 : wr.cell? ⟨gb290, 2, none⟩ = some (.int .i64 ((rd_T39 l0_0 x67_4).f1)) := (blk_cell BK290.out 2).trans rfl
 have hcz53_3 : wr.cell? ⟨gb290, 3, none⟩ = some (.slice A289_3 ((rd_T39 l0_0 x67_4).f2).length c289_3) := (blk_cell BK290.out 3).trans rfl
 have hfz53_0 := blk_frozen BK290.out 0
 have hfz53_1 := blk_frozen BK290.out 1
 have hfz53_2 := blk_frozen BK290.out 2
 have hfz53_3 := blk_frozen BK290.out 3
 have p293 : 0 ≤ (x103_6 : Int) := of_decide_eq_true (by with_reducible assumption)
 have q293 : x103_6 < (((rd_T39 l0_0 x67_4).f2).length : Int) := of_decide_eq_true (by with_reducible assumption)
 obtain ⟨ad293, A293_2, c293_2, A293_16, c293_16, e293, hx293_0, hx293_1, hx293_2, hx293_3, hx293_4, hx293_5, hx293_6, hx293_7, hx293_8, hx293_9, hx293_10, hx293_11, hx293_12, hx293_13, hx293_14, hx293_15, hx293_16, hl293_2, hi293_2, hl293_16, hi293_16⟩ := at_T46 HR289_3.out x103_6 p293 q293
 cases e293
 replace hx293_0 := (HB.out.cell (World.block_lt_of_cell? w _ hx293_0)).trans hx293_0
 replace hx293_1 := (HB.out.cell (World.block_lt_of_cell? w _ hx293_1)).trans hx293_1
 replace hx293_2 := (HB.out.cell (World.block_lt_of_cell? w _ hx293_2)).trans hx293_2
 replace hx293_3 := (HB.out.cell (World.block_lt_of_cell? w _ hx293_3)).trans hx293_3
 replace hx293_4 := (HB.out.cell (World.block_lt_of_cell? w _ hx293_4)).trans hx293_4
 replace hx293_5 := (HB.out.cell (World.block_lt_of_cell? w _ hx293_5)).trans hx293_5
 replace hx293_6 := (HB.out.cell (World.block_lt_of_cell? w _ hx293_6)).trans hx293_6
 replace hx293_7 := (HB.out.cell (World.block_lt_of_cell? w _ hx293_7)).trans hx293_7
 replace hx293_8 := (HB.out.cell (World.block_lt_of_cell? w _ hx293_8)).trans hx293_8
 replace hx293_9 := (HB.out.cell (World.block_lt_of_cell? w _ hx293_9)).trans hx293_9
 replace hx293_10 := (HB.out.cell (World.block_lt_of_cell? w _ hx293_10)).trans hx293_10
 replace hx293_11 := (HB.out.cell (World.block_lt_of_cell? w _ hx293_11)).trans hx293_11
 replace hx293_12 := (HB.out.cell (World.block_lt_of_cell? w _ hx293_12)).trans hx293_12
 replace hx293_13 := (HB.out.cell (World.block_lt_of_cell? w _ hx293_13)).trans hx293_13
 replace hx293_14 := (HB.out.cell (World.block_lt_of_cell? w _ hx293_14)).trans hx293_14
 replace hx293_15 := (HB.out.cell (World.block_lt_of_cell? w _ hx293_15)).trans hx293_15
 replace hx293_16 := (HB.out.cell (World.block_lt_of_cell? w _ hx293_16)).trans hx293_16
 have HR293_2 := Aside0.mk hi293_2
 have HC293_2 := Aside0.mk hl293_2
 clear hi293_2 hl293_2
 have HR293_16 := Aside0.mk hi293_16
 have HC293_16 := Aside0.mk hl293_16
 clear hi293_16 hl293_16
 replace p293 := eq_true p293
 replace q293 := eq_true q293
 go_wp2_with (first | ((with_reducible refine gate_callee (f := 13) rfl ?_); refine goesL_ (some 111) rfl rfl Try.func13 (by kernel_rfl) rfl #[.agg #[.int .i64 ((rd_T46 ((rd_T39 l0_0 x67_4).f2) x103_6).f0), .string ((rd_T46 ((rd_T39 l0_0 x67_4).f2) x103_6).f1.f0), .slice A293_2 ((rd_T46 ((rd_T39 l0_0 x67_4).f2) x103_6).f1.f1).length c293_2, .string ((rd_T46 ((rd_T39 l0_0 x67_4).f2) x103_6).f2), .string ((rd_T46 ((rd_T39 l0_0 x67_4).f2) x103_6).f3.f0), .int .i64 ((rd_T46 ((rd_T39 l0_0 x67_4).f2) x103_6).f3.f1.f0), .int .i64 ((rd_T46 ((rd_T39 l0_0 x67_4).f2) x103_6).f3.f1.f1), .string ((rd_T46 ((rd_T39 l0_0 x67_4).f2) x103_6).f3.f1.f2), .string ((rd_T46 ((rd_T39 l0_0 x67_4).f2) x103_6).f4.f0), .int .i64 ((rd_T46 ((rd_T39 l0_0 x67_4).f2) x103_6).f4.f1.f0), .int .i64 ((rd_T46 ((rd_T39 l0_0 x67_4).f2) x103_6).f4.f1.f1), .string ((rd_T46 ((rd_T39 l0_0 x67_4).f2) x103_6).f4.f1.f2), .string ((rd_T46 ((rd_T39 l0_0 x67_4).f2) x103_6).f5.f0), .int .i64 ((rd_T46 ((rd_T39 l0_0 x67_4).f2) x103_6).f5.f1.f0), .int .i64 ((rd_T46 ((rd_T39 l0_0 x67_4).f2) x103_6).f5.f1.f1), .string ((rd_T46 ((rd_T39 l0_0 x67_4).f2) x103_6).f5.f1.f2), .slice A293_16 ((rd_T46 ((rd_T39 l0_0 x67_4).f2) x103_6).f6).length c293_16]] rfl (by (try simp only [List.map_toArray, List.map_cons, List.map_nil]); first | done | rfl | (simp only [List.length_drop, List.length_take]; rfl)) ?_; (with_reducible refine (strata_Uses.calls k6 ((rd_T46 ((rd_T39 l0_0 x67_4).f2) x103_6).f0) ((rd_T46 ((rd_T39 l0_0 x67_4).f2) x103_6).f1.f0) _ _ ((rd_T46 ((rd_T39 l0_0 x67_4).f2) x103_6).f1.f1) ((rd_T46 ((rd_T39 l0_0 x67_4).f2) x103_6).f2) ((rd_T46 ((rd_T39 l0_0 x67_4).f2) x103_6).f3.f0) ((rd_T46 ((rd_T39 l0_0 x67_4).f2) x103_6).f3.f1.f0) ((rd_T46 ((rd_T39 l0_0 x67_4).f2) x103_6).f3.f1.f1) ((rd_T46 ((rd_T39 l0_0 x67_4).f2) x103_6).f3.f1.f2) ((rd_T46 ((rd_T39 l0_0 x67_4).f2) x103_6).f4.f0) ((rd_T46 ((rd_T39 l0_0 x67_4).f2) x103_6).f4.f1.f0) ((rd_T46 ((rd_T39 l0_0 x67_4).f2) x103_6).f4.f1.f1) ((rd_T46 ((rd_T39 l0_0 x67_4).f2) x103_6).f4.f1.f2) ((rd_T46 ((rd_T39 l0_0 x67_4).f2) x103_6).f5.f0) ((rd_T46 ((rd_T39 l0_0 x67_4).f2) x103_6).f5.f1.f0) ((rd_T46 ((rd_T39 l0_0 x67_4).f2) x103_6).f5.f1.f1) ((rd_T46 ((rd_T39 l0_0 x67_4).f2) x103_6).f5.f1.f2) _ _ ((rd_T46 ((rd_T39 l0_0 x67_4).f2) x103_6).f6) t294 _ ?side1 ?side2 ?side3 ?side4 A51.out).mono ?_); (case side1 => repeat (first | exact (Kd.C_below HR293_2.out HB.out) | (with_reducible refine Kd.C_alloc ?_ _) | (with_reducible refine Kd.C_drewN ?_ _) | (with_reducible refine Kd.C_drew ?_))); (case side2 => exact HC293_2.out); (case side3 => repeat (first | exact (Kd.C_below HR293_16.out HB.out) | (with_reducible refine Kd.C_alloc ?_ _) | (with_reducible refine Kd.C_drewN ?_ _) | (with_reducible refine Kd.C_drew ?_))); (case side4 => exact HC293_16.out); rintro e w54 ⟨v295, rfl, ho0, hb⟩; refine ⟨_, rfl, ?_⟩; have n0_ := Aside0.mk (Kd.S_elder' (by (with_reducible repeat (first | apply Kd.S_alloc | apply Kd.S_drewN | apply Kd.S_drew)); exact HO_3.out) (Kd.R_base ho0) hb); have n1_ := Aside0.mk (Kd.R_elder' (by (with_reducible repeat (first | apply Kd.R_alloc | apply Kd.R_drewN | apply Kd.R_drew)); exact HO_7.out) (Kd.R_base ho0) hb); have n2_ := Aside0.mk (Kd.R_lower (Kd.R_new' ho0 (Kd.R_lt (by (with_reducible repeat (first | apply Kd.R_alloc | apply Kd.R_drewN | apply Kd.R_drew)); exact HO_7.out))) (below_size (by repeat (first | (with_reducible first | exact HB.out | apply below_alloc | apply pw_below_drewN | apply below_drew1 | refine below_set ?_ GE275.out | refine below_set ?_ GE290.out) | exact HB.out)))); have n3_ := Aside0.mk (blk_below (g := gb275) (o := .cells #[.slice (some ad289) l0_0.length c0_0, .string a0_1, .slice A0_2 l0_2.length c0_2] 27 (0, 0)) (by (with_reducible repeat (first | refine blk_drewN ?_ _ | refine blk_drew ?_ | refine blk_alloc ?_ _)); exact BK275.out) hb); have n4_ := Aside0.mk (blk_below (g := gb290) (o := .cells #[.string ((rd_T39 l0_0 x67_4).f0.f0), .slice A289_1 ((rd_T39 l0_0 x67_4).f0.f1).length c289_1, .int .i64 ((rd_T39 l0_0 x67_4).f1), .slice (some ad293) ((rd_T39 l0_0 x67_4).f2).length c289_3] 39 (0, 0)) (by (with_reducible repeat (first | refine blk_drewN ?_ _ | refine blk_drew ?_ | refine blk_alloc ?_ _)); exact BK290.out) hb); have n5_ := Aside0.mk (below_step (by repeat (first | (with_reducible first | exact HB.out | apply below_alloc | apply pw_below_drewN | apply below_drew1 | refine below_set ?_ GE275.out | refine below_set ?_ GE290.out) | exact HB.out)) hb); clear HO_3; clear HO_7; clear BK275; clear BK290; clear HB; have HO_3 := n0_; have HO_7 := n1_; have HO296 := n2_; have BK275 := n3_; have BK290 := n4_; have HB := n5_; clear n0_ n1_ n2_ n3_ n4_ n5_; (try clear hb); (try clear hb2); (try clear hk); (try clear hi); (try clear ho0); obtain ⟨Ao55, co55, eo55⟩ := Kd.R_slice HO296.out; subst eo55))
 go_wp2
 repeat (go_quiet (fail); try go_wp2)
 go_loopg [113] k6 (fun kq v113 w' => ∃ (x113_7 : Int), v113 = .int .i64 x113_7 ∧ Aside0 (antecedentlaw13_StrataAhead.l5 kq t279 x5_2 t284 t291 x12_5 x103_6 (l0_0.length : Int) x67_4 (((rd_T39 l0_0 x67_4).f2).length : Int) x103_6 t294 (t294.length : Int) x113_7 l0_0 a0_1 l0_2 ((rd_T39 l0_0 x67_4).f0.f0) ((rd_T39 l0_0 x67_4).f0.f1) ((rd_T39 l0_0 x67_4).f1) ((rd_T39 l0_0 x67_4).f2) = some r) ∧ Aside0 (kq ≤ k6) ∧ Aside0 (Kd.S (Kd.slice 9 Kd.string) 34 w' w.heap.size (fun k_ => some k_ ≠ ((.slice Ao25 t284.length co25) : Value).ownBlock ∧ some k_ ≠ ((.slice Ao55 t294.length co55) : Value).ownBlock) (.slice Ao18 t279.length co18) t279) ∧ Aside0 (Kd.R Kd.string 9 w' w.heap.size (fun k_ => some k_ ≠ ((.slice Ao55 t294.length co55) : Value).ownBlock) (.slice Ao25 t284.length co25) t284) ∧ Aside0 (Kd.R Kd.string 9 w' w.heap.size (fun k_ => some k_ ≠ ((.slice Ao25 t284.length co25) : Value).ownBlock) (.slice Ao55 t294.length co55) t294) ∧ Aside0 (w'.heap[gb275]? = some (.cells #[(.slice (some ad289) l0_0.length c0_0), .string a0_1, (.slice A0_2 l0_2.length c0_2)] 27 (0, 0))) ∧ Aside0 (w'.heap[gb290]? = some (.cells #[.string ((rd_T39 l0_0 x67_4).f0.f0), (.slice A289_1 ((rd_T39 l0_0 x67_4).f0.f1).length c289_1), .int .i64 ((rd_T39 l0_0 x67_4).f1), (.slice (some ad293) ((rd_T39 l0_0 x67_4).f2).length c289_3)] 39 (0, 0))) ∧ Aside0 (Below w.heap.size w w'))
 case atStart => exact ⟨(0), (by first | rfl | (simp; done) | (simp [*]; done)), H', ⟨Nat.le_refl _⟩, ⟨by (with_reducible repeat (first | apply Kd.S_alloc | apply Kd.S_drewN | apply Kd.S_drew)); exact HO_3.out⟩, ⟨by (with_reducible repeat (first | apply Kd.R_alloc | apply Kd.R_drewN | apply Kd.R_drew)); exact Kd.R_mono HO_7.out (fun _ hk => hk.2)⟩, ⟨by (with_reducible repeat (first | apply Kd.R_alloc | apply Kd.R_drewN | apply Kd.R_drew)); exact Kd.R_mono HO296.out (fun _ hk => hk.2)⟩, ⟨by (with_reducible repeat (first | refine blk_drewN ?_ _ | refine blk_drew ?_ | refine blk_alloc ?_ _)); exact BK275.out⟩, ⟨by (with_reducible repeat (first | refine blk_drewN ?_ _ | refine blk_drew ?_ | refine blk_alloc ?_ _)); exact BK290.out⟩, ⟨by repeat (first | (with_reducible first | exact HB.out | apply below_alloc | apply pw_below_drewN | apply below_drew1 | refine below_set ?_ GE275.out | refine below_set ?_ GE290.out) | exact HB.out)⟩⟩
 clear H'
 try clear c1
 try clear c2
 try clear p2
 try clear q2
 try clear hx2
 try clear c3
 try clear c4
 try clear c5
 try clear p6
 try clear c8
 try clear c10
 try clear c11
 try clear c12
 try clear c13
 try clear c15
 try clear c15b0
 try clear c15b1
 try clear c19
 try clear c19b0
 try clear c20
 try clear c20b0
 try clear c21
 try clear c21b0
 try clear c26
 try clear c26b0
 try clear c27
 try clear c27b0
 try clear c28
 try clear c28b0
 try clear p28
 try clear q28
 try clear hx28
 try clear c29
 try clear p29
 try clear q29
 try clear hx29
 try clear c30
 try clear c30b0
 try clear c32
 try clear c32b0
 try clear c33
 try clear c33b0
 try clear c34
 try clear c34b0
 try clear c38
 try clear c40
 try clear c40b0
 try clear c41
 try clear c42
 try clear c42b0
 try clear c43
 try clear c43b0
 try clear c44
 try clear c46
 try clear c48
 try clear c48b0
 try clear c49
 try clear c49b0
 try clear c50
 try clear c50b0
 try clear c52
 try clear hcz16_0
 try clear hcz16_1
 try clear hcz16_2
 try clear hcz23_0
 try clear hcz23_1
 try clear hcz23_2
 try clear hcz31_0
 try clear hcz31_1
 try clear hcz31_2
 try clear hcz36_0
 try clear hcz36_1
 try clear hcz36_2
 try clear hcz39_0
 try clear hcz39_1
 try clear hcz39_2
 try clear hcz39_3
 try clear hcz45_0
 try clear hcz45_1
 try clear hcz45_2
 try clear hcz45_3
 try clear hcz47_0
 try clear hcz47_1
 try clear hcz47_2
 try clear hcz47_3
 try clear hcz53_0
 try clear hcz53_1
 try clear hcz53_2
 try clear hcz53_3
 try clear hcz8_0
 try clear hcz8_1
 try clear hcz8_2
 try clear hfz16_0
 try clear hfz16_1
 try clear hfz16_2
 try clear hfz23_0
 try clear hfz23_1
 try clear hfz23_2
 try clear hfz31_0
 try clear hfz31_1
 try clear hfz31_2
 try clear hfz36_0
 try clear hfz36_1
 try clear hfz36_2
 try clear hfz39_0
 try clear hfz39_1
 try clear hfz39_2
 try clear hfz39_3
 try clear hfz45_0
 try clear hfz45_1
 try clear hfz45_2
 try clear hfz45_3
 try clear hfz47_0
 try clear hfz47_1
 try clear hfz47_2
 try clear hfz47_3
 try clear hfz53_0
 try clear hfz53_1
 try clear hfz53_2
 try clear hfz53_3
 try clear hfz8_0
 try clear hfz8_1
 try clear hfz8_2
 try clear hx283_0
 try clear hx287_0
 try clear hx289_0
 try clear hx289_1
 try clear hx289_2
 try clear hx289_3
 try clear hx292_0
 try clear hx292_1
 try clear hx292_10
 try clear hx292_11
 try clear hx292_12
 try clear hx292_13
 try clear hx292_14
 try clear hx292_15
 try clear hx292_16
 try clear hx292_2
 try clear hx292_3
 try clear hx292_4
 try clear hx292_5
 try clear hx292_6
 try clear hx292_7
 try clear hx292_8
 try clear hx292_9
 try clear hx293_0
 try clear hx293_1
 try clear hx293_10
 try clear hx293_11
 try clear hx293_12
 try clear hx293_13
 try clear hx293_14
 try clear hx293_15
 try clear hx293_16
 try clear hx293_2
 try clear hx293_3
 try clear hx293_4
 try clear hx293_5
 try clear hx293_6
 try clear hx293_7
 try clear hx293_8
 try clear hx293_9
 try clear p2
 try clear p28
 try clear p283
 try clear p287
 try clear p289
 try clear p29
 try clear p292
 try clear p293
 try clear p6
 try clear q2
 try clear q28
 try clear q283
 try clear q287
 try clear q289
 try clear q29
 try clear q292
 try clear q293
 obtain ⟨x113_7, rfl, HA, HK7, HO_3, HO_7, HO_111, BK275, BK290, HB⟩ := hrel
 obtain _ | k7 := gk
 · exact absurd HA.out (by simp [antecedentlaw13_StrataAhead.l5])
 have H := HA.out
 clear HA
 simp only [antecedentlaw13_StrataAhead.l5] at H
 by_cases c56 : x113_7 < (t294.length : Int)
 case neg =>
  rw [if_neg c56] at H
  have c56b0 := decide_eq_false c56
  clear c56
  have H' := Aside0.mk H
  clear H
  go_wp2
  go_wp2
  repeat (go_quiet (fail); try go_wp2)
  go_roundg k7
  case measure => have := HJ1.out; have := HK2.out; have := HK3.out; have := HK4.out; have := HK5.out; have := HK6.out; have := HK7.out; omega
  case rel => exact ⟨(wrap64 (x103_6 + 1)), (by first | rfl | (simp; done) | (simp [*]; done)), H', ⟨by have := HJ1.out; have := HK2.out; have := HK3.out; have := HK4.out; have := HK5.out; have := HK6.out; have := HK7.out; omega⟩, ⟨by (with_reducible repeat (first | apply Kd.S_alloc | apply Kd.S_drewN | apply Kd.S_drew)); exact Kd.S_mono HO_3.out (fun _ hk => hk.1)⟩, ⟨by (with_reducible repeat (first | apply Kd.R_alloc | apply Kd.R_drewN | apply Kd.R_drew)); exact Kd.R_mono HO_7.out (fun _ hk => trivial)⟩, ⟨by (with_reducible repeat (first | refine blk_drewN ?_ _ | refine blk_drew ?_ | refine blk_alloc ?_ _)); exact BK275.out⟩, ⟨by (with_reducible repeat (first | refine blk_drewN ?_ _ | refine blk_drew ?_ | refine blk_alloc ?_ _)); exact BK290.out⟩, ⟨by repeat (first | (with_reducible first | exact HB.out | apply below_alloc | apply pw_below_drewN | apply below_drew1 | refine below_set ?_ GE275.out | refine below_set ?_ GE290.out) | exact HB.out)⟩⟩
 rw [if_pos c56] at H
 have c56b0 := decide_eq_true c56
 clear c56
 by_cases c57 : 0 ≤ x113_7
 case neg => rw [if_neg c57] at H; exact absurd H (by simp)
 rw [if_pos c57] at H
 have c57b0 := decide_eq_true c57
 clear c57
 by_cases c58 : x113_7 < (t294.length : Int)
 case neg => rw [if_neg c58] at H; exact absurd H (by simp)
 rw [if_pos c58] at H
 have c58b0 := decide_eq_true c58
 clear c58
 replace H := Option.bind_eq_some_iff.mp H
 obtain ⟨t298, A590, H⟩ := H
 have A59 := Aside0.mk A590
 clear A590
 by_cases c60 : t298 < 0
 case pos =>
  rw [if_pos c60] at H
  have c60b0 := decide_eq_true c60
  clear c60
  obtain rfl := Option.some.inj H
  have p297 : 0 ≤ (x113_7 : Int) := of_decide_eq_true (by with_reducible assumption)
  have q297 : x113_7 < (t294.length : Int) := of_decide_eq_true (by with_reducible assumption)
  obtain ⟨ad297, e297, hx297_0⟩ := Kd.at_string (Kd.R_reads' HO_111.out).2.2 x113_7 p297 q297
  cases e297
  replace p297 := eq_true p297
  replace q297 := eq_true q297
  go_wp2_with (first | ((with_reducible refine gate_callee (f := 12) rfl ?_); refine goesL_ (some 119) rfl rfl Try.func12 (by kernel_rfl) rfl #[.slice Ao18 t279.length co18, .string (rdOf ByteArray.empty t294 x113_7)] rfl (by (try simp only [List.map_toArray, List.map_cons, List.map_nil]); first | done | rfl | (simp only [List.length_drop, List.length_take]; rfl)) ?_; (with_reducible refine (antecedentlaw13_place.calls k7 _ _ t279 (rdOf ByteArray.empty t294 x113_7) t298 _ ?side1 ?side2 A59.out).mono ?_); (case side1 => repeat (first | exact (Kd.S_reads' HO_3.out).2.2 | (with_reducible refine Kd.C_alloc ?_ _) | (with_reducible refine Kd.C_drewN ?_ _) | (with_reducible refine Kd.C_drew ?_))); (case side2 => exact (Kd.S_reads' HO_3.out).2.1); rintro e w' ⟨rfl, ⟨nd, rfl⟩⟩; refine ⟨_, rfl, ?_⟩))
  go_wp2
  repeat (go_quiet (fail); try go_wp2)
  go_ret
  exact ⟨by first | rfl | (simp [errW_none, errW_some] <;> rfl) | (simp [*, errW_none, errW_some] <;> rfl), by repeat (first | (with_reducible first | exact HB.out | apply below_alloc | apply pw_below_drewN | apply below_drew1 | refine below_set ?_ GE275.out | refine below_set ?_ GE290.out) | exact HB.out)⟩
 rw [if_neg c60] at H
 have c60b0 := decide_eq_false c60
 clear c60
 by_cases c61 : t298 > t291
 case pos =>
  rw [if_pos c61] at H
  have c61b0 := decide_eq_true c61
  clear c61
  obtain rfl := Option.some.inj H
  have p297 : 0 ≤ (x113_7 : Int) := of_decide_eq_true (by with_reducible assumption)
  have q297 : x113_7 < (t294.length : Int) := of_decide_eq_true (by with_reducible assumption)
  obtain ⟨ad297, e297, hx297_0⟩ := Kd.at_string (Kd.R_reads' HO_111.out).2.2 x113_7 p297 q297
  cases e297
  replace p297 := eq_true p297
  replace q297 := eq_true q297
  go_wp2_with (first | ((with_reducible refine gate_callee (f := 12) rfl ?_); refine goesL_ (some 119) rfl rfl Try.func12 (by kernel_rfl) rfl #[.slice Ao18 t279.length co18, .string (rdOf ByteArray.empty t294 x113_7)] rfl (by (try simp only [List.map_toArray, List.map_cons, List.map_nil]); first | done | rfl | (simp only [List.length_drop, List.length_take]; rfl)) ?_; (with_reducible refine (antecedentlaw13_place.calls k7 _ _ t279 (rdOf ByteArray.empty t294 x113_7) t298 _ ?side1 ?side2 A59.out).mono ?_); (case side1 => repeat (first | exact (Kd.S_reads' HO_3.out).2.2 | (with_reducible refine Kd.C_alloc ?_ _) | (with_reducible refine Kd.C_drewN ?_ _) | (with_reducible refine Kd.C_drew ?_))); (case side2 => exact (Kd.S_reads' HO_3.out).2.1); rintro e w' ⟨rfl, ⟨nd, rfl⟩⟩; refine ⟨_, rfl, ?_⟩))
  go_wp2
  repeat (go_quiet (fail); try go_wp2)
  go_ret
  exact ⟨by first | rfl | (simp [errW_none, errW_some] <;> rfl) | (simp [*, errW_none, errW_some] <;> rfl), by repeat (first | (with_reducible first | exact HB.out | apply below_alloc | apply pw_below_drewN | apply below_drew1 | refine below_set ?_ GE275.out | refine below_set ?_ GE290.out) | exact HB.out)⟩
 rw [if_neg c61] at H
 have c61b0 := decide_eq_false c61
 clear c61
 by_cases c62 : t298 = t291
 case neg =>
  rw [if_neg c62] at H
  have c62b0 := beq_eq_false_iff_ne.mpr c62
  have c62b1 := bne_iff_ne.mpr c62
  have H' := Aside0.mk H
  clear H
  have p297 : 0 ≤ (x113_7 : Int) := of_decide_eq_true (by with_reducible assumption)
  have q297 : x113_7 < (t294.length : Int) := of_decide_eq_true (by with_reducible assumption)
  obtain ⟨ad297, e297, hx297_0⟩ := Kd.at_string (Kd.R_reads' HO_111.out).2.2 x113_7 p297 q297
  cases e297
  replace p297 := eq_true p297
  replace q297 := eq_true q297
  go_wp2_with (first | ((with_reducible refine gate_callee (f := 12) rfl ?_); refine goesL_ (some 119) rfl rfl Try.func12 (by kernel_rfl) rfl #[.slice Ao18 t279.length co18, .string (rdOf ByteArray.empty t294 x113_7)] rfl (by (try simp only [List.map_toArray, List.map_cons, List.map_nil]); first | done | rfl | (simp only [List.length_drop, List.length_take]; rfl)) ?_; (with_reducible refine (antecedentlaw13_place.calls k7 _ _ t279 (rdOf ByteArray.empty t294 x113_7) t298 _ ?side1 ?side2 A59.out).mono ?_); (case side1 => repeat (first | exact (Kd.S_reads' HO_3.out).2.2 | (with_reducible refine Kd.C_alloc ?_ _) | (with_reducible refine Kd.C_drewN ?_ _) | (with_reducible refine Kd.C_drew ?_))); (case side2 => exact (Kd.S_reads' HO_3.out).2.1); rintro e w' ⟨rfl, ⟨nd, rfl⟩⟩; refine ⟨_, rfl, ?_⟩))
  go_wp2
  repeat (go_quiet (fail); try go_wp2)
  go_roundg k7
  case measure => have := HJ1.out; have := HK2.out; have := HK3.out; have := HK4.out; have := HK5.out; have := HK6.out; have := HK7.out; omega
  case rel => exact ⟨(wrap64 (x113_7 + 1)), (by first | rfl | (simp; done) | (simp [*]; done)), H', ⟨by have := HJ1.out; have := HK2.out; have := HK3.out; have := HK4.out; have := HK5.out; have := HK6.out; have := HK7.out; omega⟩, ⟨by (with_reducible repeat (first | apply Kd.S_alloc | apply Kd.S_drewN | apply Kd.S_drew)); exact HO_3.out⟩, ⟨by (with_reducible repeat (first | apply Kd.R_alloc | apply Kd.R_drewN | apply Kd.R_drew)); exact HO_7.out⟩, ⟨by (with_reducible repeat (first | apply Kd.R_alloc | apply Kd.R_drewN | apply Kd.R_drew)); exact HO_111.out⟩, ⟨by (with_reducible repeat (first | refine blk_drewN ?_ _ | refine blk_drew ?_ | refine blk_alloc ?_ _)); exact BK275.out⟩, ⟨by (with_reducible repeat (first | refine blk_drewN ?_ _ | refine blk_drew ?_ | refine blk_alloc ?_ _)); exact BK290.out⟩, ⟨by repeat (first | (with_reducible first | exact HB.out | apply below_alloc | apply pw_below_drewN | apply below_drew1 | refine below_set ?_ GE275.out | refine below_set ?_ GE290.out) | exact HB.out)⟩⟩
 rw [if_pos c62] at H
 have c62b0 := beq_iff_eq.mpr c62
 have c62b1 := bne_eq_false_iff_eq.mpr c62
 clear c62
 by_cases c63 : x12_5 = true
 case pos =>
  subst c63
  rw [if_pos rfl] at H
  obtain rfl := Option.some.inj H
  have p297 : 0 ≤ (x113_7 : Int) := of_decide_eq_true (by with_reducible assumption)
  have q297 : x113_7 < (t294.length : Int) := of_decide_eq_true (by with_reducible assumption)
  obtain ⟨ad297, e297, hx297_0⟩ := Kd.at_string (Kd.R_reads' HO_111.out).2.2 x113_7 p297 q297
  cases e297
  replace p297 := eq_true p297
  replace q297 := eq_true q297
  go_wp2_with (first | ((with_reducible refine gate_callee (f := 12) rfl ?_); refine goesL_ (some 119) rfl rfl Try.func12 (by kernel_rfl) rfl #[.slice Ao18 t279.length co18, .string (rdOf ByteArray.empty t294 x113_7)] rfl (by (try simp only [List.map_toArray, List.map_cons, List.map_nil]); first | done | rfl | (simp only [List.length_drop, List.length_take]; rfl)) ?_; (with_reducible refine (antecedentlaw13_place.calls k7 _ _ t279 (rdOf ByteArray.empty t294 x113_7) t298 _ ?side1 ?side2 A59.out).mono ?_); (case side1 => repeat (first | exact (Kd.S_reads' HO_3.out).2.2 | (with_reducible refine Kd.C_alloc ?_ _) | (with_reducible refine Kd.C_drewN ?_ _) | (with_reducible refine Kd.C_drew ?_))); (case side2 => exact (Kd.S_reads' HO_3.out).2.1); rintro e w' ⟨rfl, ⟨nd, rfl⟩⟩; refine ⟨_, rfl, ?_⟩))
  go_wp2
  repeat (go_quiet (fail); try go_wp2)
  go_ret
  exact ⟨by first | rfl | (simp [errW_none, errW_some] <;> rfl) | (simp [*, errW_none, errW_some] <;> rfl), by repeat (first | (with_reducible first | exact HB.out | apply below_alloc | apply pw_below_drewN | apply below_drew1 | refine below_set ?_ GE275.out | refine below_set ?_ GE290.out) | exact HB.out)⟩
 replace c63 := Bool.eq_false_iff.mpr c63
 subst c63
 rw [if_neg (show ¬ (false = true) by decide)] at H
 by_cases c64 : 0 ≤ x103_6
 case neg => rw [if_neg c64] at H; exact absurd H (by simp)
 rw [if_pos c64] at H
 have c64b0 := decide_eq_true c64
 clear c64
 by_cases c65 : x103_6 < (((rd_T39 l0_0 x67_4).f2).length : Int)
 case neg => rw [if_neg c65] at H; exact absurd H (by simp)
 rw [if_pos c65] at H
 have c65b0 := decide_eq_true c65
 clear c65
 by_cases c66 : ((rd_T46 ((rd_T39 l0_0 x67_4).f2) x103_6).f0) = 2
 case pos =>
  rw [if_pos c66] at H
  have c66b0 := beq_iff_eq.mpr c66
  have c66b1 := bne_eq_false_iff_eq.mpr c66
  clear c66
  obtain rfl := Option.some.inj H
  have p297 : 0 ≤ (x113_7 : Int) := of_decide_eq_true (by with_reducible assumption)
  have q297 : x113_7 < (t294.length : Int) := of_decide_eq_true (by with_reducible assumption)
  obtain ⟨ad297, e297, hx297_0⟩ := Kd.at_string (Kd.R_reads' HO_111.out).2.2 x113_7 p297 q297
  cases e297
  replace p297 := eq_true p297
  replace q297 := eq_true q297
  go_wp2_with (first | ((with_reducible refine gate_callee (f := 12) rfl ?_); refine goesL_ (some 119) rfl rfl Try.func12 (by kernel_rfl) rfl #[.slice Ao18 t279.length co18, .string (rdOf ByteArray.empty t294 x113_7)] rfl (by (try simp only [List.map_toArray, List.map_cons, List.map_nil]); first | done | rfl | (simp only [List.length_drop, List.length_take]; rfl)) ?_; (with_reducible refine (antecedentlaw13_place.calls k7 _ _ t279 (rdOf ByteArray.empty t294 x113_7) t298 _ ?side1 ?side2 A59.out).mono ?_); (case side1 => repeat (first | exact (Kd.S_reads' HO_3.out).2.2 | (with_reducible refine Kd.C_alloc ?_ _) | (with_reducible refine Kd.C_drewN ?_ _) | (with_reducible refine Kd.C_drew ?_))); (case side2 => exact (Kd.S_reads' HO_3.out).2.1); rintro e w' ⟨rfl, ⟨nd, rfl⟩⟩; refine ⟨_, rfl, ?_⟩; have hnb67 := NB290_275.out; have hnc67 := NB275_290.out; have hcz68_0 : wr.cell? ⟨gb290, 0, none⟩ = some (.string ((rd_T39 l0_0 x67_4).f0.f0)) := (blk_cell BK290.out 0).trans rfl; have hcz68_1 : wr.cell? ⟨gb290, 1, none⟩ = some (.slice A289_1 ((rd_T39 l0_0 x67_4).f0.f1).length c289_1) := (blk_cell BK290.out 1).trans rfl; have hcz68_2 : wr.cell? ⟨gb290, 2, none⟩ = some (.int .i64 ((rd_T39 l0_0 x67_4).f1)) := (blk_cell BK290.out 2).trans rfl; have hcz68_3 : wr.cell? ⟨gb290, 3, none⟩ = some (.slice (some ad293) ((rd_T39 l0_0 x67_4).f2).length c289_3) := (blk_cell BK290.out 3).trans rfl; have hfz68_0 := blk_frozen BK290.out 0; have hfz68_1 := blk_frozen BK290.out 1; have hfz68_2 := blk_frozen BK290.out 2; have hfz68_3 := blk_frozen BK290.out 3; have p299 : 0 ≤ (x103_6 : Int) := of_decide_eq_true (by with_reducible assumption); have q299 : x103_6 < (((rd_T39 l0_0 x67_4).f2).length : Int) := of_decide_eq_true (by with_reducible assumption); obtain ⟨ad299, A299_2, c299_2, A299_16, c299_16, e299, hx299_0, hx299_1, hx299_2, hx299_3, hx299_4, hx299_5, hx299_6, hx299_7, hx299_8, hx299_9, hx299_10, hx299_11, hx299_12, hx299_13, hx299_14, hx299_15, hx299_16, hl299_2, hi299_2, hl299_16, hi299_16⟩ := at_T46 HR289_3.out x103_6 p299 q299; obtain rfl : ad293 = ad299 := (by injection e299); replace hx299_0 := (HB.out.cell (World.block_lt_of_cell? w _ hx299_0)).trans hx299_0; replace hx299_1 := (HB.out.cell (World.block_lt_of_cell? w _ hx299_1)).trans hx299_1; replace hx299_2 := (HB.out.cell (World.block_lt_of_cell? w _ hx299_2)).trans hx299_2; replace hx299_3 := (HB.out.cell (World.block_lt_of_cell? w _ hx299_3)).trans hx299_3; replace hx299_4 := (HB.out.cell (World.block_lt_of_cell? w _ hx299_4)).trans hx299_4; replace hx299_5 := (HB.out.cell (World.block_lt_of_cell? w _ hx299_5)).trans hx299_5; replace hx299_6 := (HB.out.cell (World.block_lt_of_cell? w _ hx299_6)).trans hx299_6; replace hx299_7 := (HB.out.cell (World.block_lt_of_cell? w _ hx299_7)).trans hx299_7; replace hx299_8 := (HB.out.cell (World.block_lt_of_cell? w _ hx299_8)).trans hx299_8; replace hx299_9 := (HB.out.cell (World.block_lt_of_cell? w _ hx299_9)).trans hx299_9; replace hx299_10 := (HB.out.cell (World.block_lt_of_cell? w _ hx299_10)).trans hx299_10; replace hx299_11 := (HB.out.cell (World.block_lt_of_cell? w _ hx299_11)).trans hx299_11; replace hx299_12 := (HB.out.cell (World.block_lt_of_cell? w _ hx299_12)).trans hx299_12; replace hx299_13 := (HB.out.cell (World.block_lt_of_cell? w _ hx299_13)).trans hx299_13; replace hx299_14 := (HB.out.cell (World.block_lt_of_cell? w _ hx299_14)).trans hx299_14; replace hx299_15 := (HB.out.cell (World.block_lt_of_cell? w _ hx299_15)).trans hx299_15; replace hx299_16 := (HB.out.cell (World.block_lt_of_cell? w _ hx299_16)).trans hx299_16; have HR299_2 := Aside0.mk hi299_2; have HC299_2 := Aside0.mk hl299_2; clear hi299_2 hl299_2; have HR299_16 := Aside0.mk hi299_16; have HC299_16 := Aside0.mk hl299_16; clear hi299_16 hl299_16; replace p299 := eq_true p299; replace q299 := eq_true q299))
  go_wp2
  repeat (go_quiet (fail); try go_wp2)
  go_ret
  exact ⟨by first | rfl | (simp [errW_none, errW_some] <;> rfl) | (simp [*, errW_none, errW_some] <;> rfl), by repeat (first | (with_reducible first | exact HB.out | apply below_alloc | apply pw_below_drewN | apply below_drew1 | refine below_set ?_ GE275.out | refine below_set ?_ GE290.out) | exact HB.out)⟩
 rw [if_neg c66] at H
 have c66b0 := beq_eq_false_iff_ne.mpr c66
 have c66b1 := bne_iff_ne.mpr c66
 have H' := Aside0.mk H
 clear H
 have p297 : 0 ≤ (x113_7 : Int) := of_decide_eq_true (by with_reducible assumption)
 have q297 : x113_7 < (t294.length : Int) := of_decide_eq_true (by with_reducible assumption)
 obtain ⟨ad297, e297, hx297_0⟩ := Kd.at_string (Kd.R_reads' HO_111.out).2.2 x113_7 p297 q297
 cases e297
 replace p297 := eq_true p297
 replace q297 := eq_true q297
 go_wp2_with (first | ((with_reducible refine gate_callee (f := 12) rfl ?_); refine goesL_ (some 119) rfl rfl Try.func12 (by kernel_rfl) rfl #[.slice Ao18 t279.length co18, .string (rdOf ByteArray.empty t294 x113_7)] rfl (by (try simp only [List.map_toArray, List.map_cons, List.map_nil]); first | done | rfl | (simp only [List.length_drop, List.length_take]; rfl)) ?_; (with_reducible refine (antecedentlaw13_place.calls k7 _ _ t279 (rdOf ByteArray.empty t294 x113_7) t298 _ ?side1 ?side2 A59.out).mono ?_); (case side1 => repeat (first | exact (Kd.S_reads' HO_3.out).2.2 | (with_reducible refine Kd.C_alloc ?_ _) | (with_reducible refine Kd.C_drewN ?_ _) | (with_reducible refine Kd.C_drew ?_))); (case side2 => exact (Kd.S_reads' HO_3.out).2.1); rintro e w' ⟨rfl, ⟨nd, rfl⟩⟩; refine ⟨_, rfl, ?_⟩; have hnb69 := NB290_275.out; have hnc69 := NB275_290.out; have hcz70_0 : wr.cell? ⟨gb290, 0, none⟩ = some (.string ((rd_T39 l0_0 x67_4).f0.f0)) := (blk_cell BK290.out 0).trans rfl; have hcz70_1 : wr.cell? ⟨gb290, 1, none⟩ = some (.slice A289_1 ((rd_T39 l0_0 x67_4).f0.f1).length c289_1) := (blk_cell BK290.out 1).trans rfl; have hcz70_2 : wr.cell? ⟨gb290, 2, none⟩ = some (.int .i64 ((rd_T39 l0_0 x67_4).f1)) := (blk_cell BK290.out 2).trans rfl; have hcz70_3 : wr.cell? ⟨gb290, 3, none⟩ = some (.slice (some ad293) ((rd_T39 l0_0 x67_4).f2).length c289_3) := (blk_cell BK290.out 3).trans rfl; have hfz70_0 := blk_frozen BK290.out 0; have hfz70_1 := blk_frozen BK290.out 1; have hfz70_2 := blk_frozen BK290.out 2; have hfz70_3 := blk_frozen BK290.out 3; have p299 : 0 ≤ (x103_6 : Int) := of_decide_eq_true (by with_reducible assumption); have q299 : x103_6 < (((rd_T39 l0_0 x67_4).f2).length : Int) := of_decide_eq_true (by with_reducible assumption); obtain ⟨ad299, A299_2, c299_2, A299_16, c299_16, e299, hx299_0, hx299_1, hx299_2, hx299_3, hx299_4, hx299_5, hx299_6, hx299_7, hx299_8, hx299_9, hx299_10, hx299_11, hx299_12, hx299_13, hx299_14, hx299_15, hx299_16, hl299_2, hi299_2, hl299_16, hi299_16⟩ := at_T46 HR289_3.out x103_6 p299 q299; obtain rfl : ad293 = ad299 := (by injection e299); replace hx299_0 := (HB.out.cell (World.block_lt_of_cell? w _ hx299_0)).trans hx299_0; replace hx299_1 := (HB.out.cell (World.block_lt_of_cell? w _ hx299_1)).trans hx299_1; replace hx299_2 := (HB.out.cell (World.block_lt_of_cell? w _ hx299_2)).trans hx299_2; replace hx299_3 := (HB.out.cell (World.block_lt_of_cell? w _ hx299_3)).trans hx299_3; replace hx299_4 := (HB.out.cell (World.block_lt_of_cell? w _ hx299_4)).trans hx299_4; replace hx299_5 := (HB.out.cell (World.block_lt_of_cell? w _ hx299_5)).trans hx299_5; replace hx299_6 := (HB.out.cell (World.block_lt_of_cell? w _ hx299_6)).trans hx299_6; replace hx299_7 := (HB.out.cell (World.block_lt_of_cell? w _ hx299_7)).trans hx299_7; replace hx299_8 := (HB.out.cell (World.block_lt_of_cell? w _ hx299_8)).trans hx299_8; replace hx299_9 := (HB.out.cell (World.block_lt_of_cell? w _ hx299_9)).trans hx299_9; replace hx299_10 := (HB.out.cell (World.block_lt_of_cell? w _ hx299_10)).trans hx299_10; replace hx299_11 := (HB.out.cell (World.block_lt_of_cell? w _ hx299_11)).trans hx299_11; replace hx299_12 := (HB.out.cell (World.block_lt_of_cell? w _ hx299_12)).trans hx299_12; replace hx299_13 := (HB.out.cell (World.block_lt_of_cell? w _ hx299_13)).trans hx299_13; replace hx299_14 := (HB.out.cell (World.block_lt_of_cell? w _ hx299_14)).trans hx299_14; replace hx299_15 := (HB.out.cell (World.block_lt_of_cell? w _ hx299_15)).trans hx299_15; replace hx299_16 := (HB.out.cell (World.block_lt_of_cell? w _ hx299_16)).trans hx299_16; have HR299_2 := Aside0.mk hi299_2; have HC299_2 := Aside0.mk hl299_2; clear hi299_2 hl299_2; have HR299_16 := Aside0.mk hi299_16; have HC299_16 := Aside0.mk hl299_16; clear hi299_16 hl299_16; replace p299 := eq_true p299; replace q299 := eq_true q299))
 go_wp2
 repeat (go_quiet (fail); try go_wp2)
 go_roundg k7
 case measure => have := HJ1.out; have := HK2.out; have := HK3.out; have := HK4.out; have := HK5.out; have := HK6.out; have := HK7.out; omega
 case rel => exact ⟨(wrap64 (x113_7 + 1)), (by first | rfl | (simp; done) | (simp [*]; done)), H', ⟨by have := HJ1.out; have := HK2.out; have := HK3.out; have := HK4.out; have := HK5.out; have := HK6.out; have := HK7.out; omega⟩, ⟨by (with_reducible repeat (first | apply Kd.S_alloc | apply Kd.S_drewN | apply Kd.S_drew)); exact HO_3.out⟩, ⟨by (with_reducible repeat (first | apply Kd.R_alloc | apply Kd.R_drewN | apply Kd.R_drew)); exact HO_7.out⟩, ⟨by (with_reducible repeat (first | apply Kd.R_alloc | apply Kd.R_drewN | apply Kd.R_drew)); exact HO_111.out⟩, ⟨by (with_reducible repeat (first | refine blk_drewN ?_ _ | refine blk_drew ?_ | refine blk_alloc ?_ _)); exact BK275.out⟩, ⟨by (with_reducible repeat (first | refine blk_drewN ?_ _ | refine blk_drew ?_ | refine blk_alloc ?_ _)); exact BK290.out⟩, ⟨by repeat (first | (with_reducible first | exact HB.out | apply below_alloc | apply pw_below_drewN | apply below_drew1 | refine below_set ?_ GE275.out | refine below_set ?_ GE290.out) | exact HB.out)⟩⟩
end Go.Proofs.Ytfkilcegdajdcaa.PZ
