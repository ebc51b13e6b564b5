/- Printed by a turned copy of the printer (wip/mkprint.py): Go functions as Lean functions, with a proof of each. -/
import Derived.Test.YtigpeemgnocdhaaPZx0
import Derived.Test.YtigpeemgnocdhaaPZx2
import Derived.Test.YtigpeemgnocdhaaPZx3
import Derived.Test.YtigpeemgnocdhaaPZx10
namespace Go.Proofs.Ytigpeemgnocdhaa.PZ
open Go.RowKit Go.Proofs.YtigpeemgnocdhaaW.PrintWords Go.Proofs.YtigpeemgnocdhaaW.PrintLast Go.Proofs.YtigpeemgnocdhaaW.PrintMore
attribute [local go_sem] max2_int min2_int max_two min_two max_three min_three max_four min_four   -- for this text's walks alone
set_option linter.unusedVariables false
set_option linter.unusedSimpArgs false

/-! ### antecedentlaw12_CompsReach: function 8 -/
mutual
def antecedentlaw12_CompsReach.j0 : Nat → Int → List (S31) → Bool → Option (Bool)
  | 0, _, _, _ => none
  | k + 1, x0, x1, x21 => if x21 = true then ((antecedentlaw12_awake.f k).bind fun t331 => (some t331)) else ((comps_Comps.f k (Int.tmod (wrap64 (x0)) 40) x1).bind fun t332 => (if (t332.length : Int) = (Int.tmod (wrap64 (x0)) 40) then (antecedentlaw12_CompsReach.l0 k x1 (Int.tmod (wrap64 (x0)) 40) t332 (Int.tmod (wrap64 (x0)) 40) 0) else (some false)))
def antecedentlaw12_CompsReach.l0 : Nat → List (S31) → Int → List Int → Int → Int → Option (Bool)
  | 0, _, _, _, _, _ => none
  | k + 1, x1, x5, x6, x33, x34 => if x34 < x33 then ((comps_Reach.f k x5 x1 x34).bind fun t335 => ((antecedentlaw12_CompsReach_1.f k t335 x34).bind fun t338 => (if t338 = true then (antecedentlaw12_CompsReach.l1 k x1 x5 x6 x34 t335 x33 x34 t335 (t335.length : Int) 0) else (some false)))) else (some true)
def antecedentlaw12_CompsReach.l1 : Nat → List (S31) → Int → List Int → Int → List Int → Int → Int → List Int → Int → Int → Option (Bool)
  | 0, _, _, _, _, _, _, _, _, _, _ => none
  | k + 1, x1, x5, x6, x8, x9, x33, x34, x46, x47, x48 => if x48 < x47 then (if 0 ≤ x48 then (if x48 < (x46.length : Int) then (if (rd x46 x48) < 0 then (antecedentlaw12_CompsReach.j3 k x1 x5 x6 x8 x9 (rd x46 x48) x33 x34 x46 x47 x48 true) else (if (rd x46 x48) ≥ x5 then (antecedentlaw12_CompsReach.j3 k x1 x5 x6 x8 x9 (rd x46 x48) x33 x34 x46 x47 x48 true) else (if 0 ≤ (rd x46 x48) then (if (rd x46 x48) < (x6.length : Int) then (if 0 ≤ x8 then (if x8 < (x6.length : Int) then (antecedentlaw12_CompsReach.j3 k x1 x5 x6 x8 x9 (rd x46 x48) x33 x34 x46 x47 x48 (decide ((rd x6 (rd x46 x48)) > (rd x6 x8)))) else (none)) else (none)) else (none)) else (none)))) else (none)) else (none)) else (antecedentlaw12_CompsReach.l3 k x1 x5 x6 x8 x9 x33 x34 (x1.length : Int) 0)
def antecedentlaw12_CompsReach.j3 : Nat → List (S31) → Int → List Int → Int → List Int → Int → Int → Int → List Int → Int → Int → Bool → Option (Bool)
  | 0, _, _, _, _, _, _, _, _, _, _, _, _ => none
  | k + 1, x1, x5, x6, x8, x9, x11, x33, x34, x46, x47, x48, x69 => if x69 = true then (some false) else ((comps_Reach.f k x5 x1 x11).bind fun t342 => (antecedentlaw12_CompsReach.l2 k x1 x5 x6 x8 x9 x33 x34 x46 x47 x48 t342 (t342.length : Int) 0))
def antecedentlaw12_CompsReach.l2 : Nat → List (S31) → Int → List Int → Int → List Int → Int → Int → List Int → Int → Int → List Int → Int → Int → Option (Bool)
  | 0, _, _, _, _, _, _, _, _, _, _, _, _, _ => none
  | k + 1, x1, x5, x6, x8, x9, x33, x34, x46, x47, x48, x73, x74, x75 => if x75 < x74 then (if 0 ≤ x75 then (if x75 < (x73.length : Int) then ((antecedentlaw12_CompsReach_1.f k x9 (rd x73 x75)).bind fun t346 => (if t346 = true then (antecedentlaw12_CompsReach.l2 k x1 x5 x6 x8 x9 x33 x34 x46 x47 x48 x73 x74 (wrap64 (x75 + 1))) else (some false))) else (none)) else (none)) else (antecedentlaw12_CompsReach.l1 k x1 x5 x6 x8 x9 x33 x34 x46 x47 (wrap64 (x48 + 1)))
def antecedentlaw12_CompsReach.l3 : Nat → List (S31) → Int → List Int → Int → List Int → Int → Int → Int → Int → Option (Bool)
  | 0, _, _, _, _, _, _, _, _, _ => none
  | k + 1, x1, x5, x6, x8, x9, x33, x34, x87, x88 => if x88 < x87 then (if 0 ≤ x88 then (if x88 < (x1.length : Int) then (if ((rd_T31 x1 x88).f0) = x8 then (if ((rd_T31 x1 x88).f1) ≥ 0 then (if ((rd_T31 x1 x88).f1) < x5 then ((antecedentlaw12_CompsReach_1.f k x9 ((rd_T31 x1 x88).f1)).bind fun t351 => (if t351 = true then (antecedentlaw12_CompsReach.l3 k x1 x5 x6 x8 x9 x33 x34 x87 (wrap64 (x88 + 1))) else (some false))) else (antecedentlaw12_CompsReach.l3 k x1 x5 x6 x8 x9 x33 x34 x87 (wrap64 (x88 + 1)))) else (antecedentlaw12_CompsReach.l3 k x1 x5 x6 x8 x9 x33 x34 x87 (wrap64 (x88 + 1)))) else (antecedentlaw12_CompsReach.l3 k x1 x5 x6 x8 x9 x33 x34 x87 (wrap64 (x88 + 1)))) else (none)) else (none)) else (antecedentlaw12_CompsReach.l0 k x1 x5 x6 x33 (wrap64 (x34 + 1)))
end
def antecedentlaw12_CompsReach.f (k : Nat) (a0 : Int) (l1 : List (S31)) : Option (Bool) := (antecedentlaw12_awake.f k).bind fun t330 => (if t330 = true then (antecedentlaw12_CompsReach.j0 k a0 l1 (decide ((l1.length : Int) > 100))) else (antecedentlaw12_CompsReach.j0 k a0 l1 true))
theorem antecedentlaw12_CompsReach.mono_l : ∀ k, (∀ y0 y1 y2, LeO (antecedentlaw12_CompsReach.j0 k y0 y1 y2) (antecedentlaw12_CompsReach.j0 (k + 1) y0 y1 y2)) ∧ (∀ y0 y1 y2 y3 y4, LeO (antecedentlaw12_CompsReach.l0 k y0 y1 y2 y3 y4) (antecedentlaw12_CompsReach.l0 (k + 1) y0 y1 y2 y3 y4)) ∧ (∀ y0 y1 y2 y3 y4 y5 y6 y7 y8 y9, LeO (antecedentlaw12_CompsReach.l1 k y0 y1 y2 y3 y4 y5 y6 y7 y8 y9) (antecedentlaw12_CompsReach.l1 (k + 1) y0 y1 y2 y3 y4 y5 y6 y7 y8 y9)) ∧ (∀ y0 y1 y2 y3 y4 y5 y6 y7 y8 y9 y10 y11, LeO (antecedentlaw12_CompsReach.j3 k y0 y1 y2 y3 y4 y5 y6 y7 y8 y9 y10 y11) (antecedentlaw12_CompsReach.j3 (k + 1) y0 y1 y2 y3 y4 y5 y6 y7 y8 y9 y10 y11)) ∧ (∀ y0 y1 y2 y3 y4 y5 y6 y7 y8 y9 y10 y11 y12, LeO (antecedentlaw12_CompsReach.l2 k y0 y1 y2 y3 y4 y5 y6 y7 y8 y9 y10 y11 y12) (antecedentlaw12_CompsReach.l2 (k + 1) y0 y1 y2 y3 y4 y5 y6 y7 y8 y9 y10 y11 y12)) ∧ (∀ y0 y1 y2 y3 y4 y5 y6 y7 y8, LeO (antecedentlaw12_CompsReach.l3 k y0 y1 y2 y3 y4 y5 y6 y7 y8) (antecedentlaw12_CompsReach.l3 (k + 1) y0 y1 y2 y3 y4 y5 y6 y7 y8))
  | 0 => ⟨fun _ _ _ r h => by simp [antecedentlaw12_CompsReach.j0] at h, fun _ _ _ _ _ r h => by simp [antecedentlaw12_CompsReach.l0] at h, fun _ _ _ _ _ _ _ _ _ _ r h => by simp [antecedentlaw12_CompsReach.l1] at h, fun _ _ _ _ _ _ _ _ _ _ _ _ r h => by simp [antecedentlaw12_CompsReach.j3] at h, fun _ _ _ _ _ _ _ _ _ _ _ _ _ r h => by simp [antecedentlaw12_CompsReach.l2] at h, fun _ _ _ _ _ _ _ _ _ r h => by simp [antecedentlaw12_CompsReach.l3] at h⟩
  | k + 1 => by
    obtain ⟨ih0, ih1, ih2, ih3, ih4, ih5⟩ := antecedentlaw12_CompsReach.mono_l k
    refine ⟨?_, ?_, ?_, ?_, ?_, ?_⟩
    · intro y0 y1 y2
      unfold antecedentlaw12_CompsReach.j0
      repeat' first
      | (with_reducible exact ih0 _ _ _)
      | (with_reducible exact ih1 _ _ _ _ _)
      | (with_reducible exact ih2 _ _ _ _ _ _ _ _ _ _)
      | (with_reducible exact ih3 _ _ _ _ _ _ _ _ _ _ _ _)
      | (with_reducible exact ih4 _ _ _ _ _ _ _ _ _ _ _ _ _)
      | (with_reducible exact ih5 _ _ _ _ _ _ _ _ _)
      | (with_reducible exact antecedentlaw12_CompsReach_1.mono _ _ _)
      | (with_reducible exact antecedentlaw12_awake.mono _)
      | (with_reducible exact comps_Comps.mono _ _ _)
      | (with_reducible exact comps_Reach.mono _ _ _ _)
      | (with_reducible exact LeO.refl _)
      | (with_reducible exact LeO.none _)
      | (with_reducible refine LeO.ite ?_ ?_)
      | (with_reducible refine LeO.bind ?_ (fun _ => ?_))
      | exact ih0 _ _ _
      | exact ih1 _ _ _ _ _
      | exact ih2 _ _ _ _ _ _ _ _ _ _
      | exact ih3 _ _ _ _ _ _ _ _ _ _ _ _
      | exact ih4 _ _ _ _ _ _ _ _ _ _ _ _ _
      | exact ih5 _ _ _ _ _ _ _ _ _
      | exact antecedentlaw12_CompsReach_1.mono _ _ _
      | exact antecedentlaw12_awake.mono _
      | exact comps_Comps.mono _ _ _
      | exact comps_Reach.mono _ _ _ _
      | exact LeO.none _
      | refine LeO.ite ?_ ?_
      | refine LeO.bind ?_ (fun _ => ?_)
    · intro y0 y1 y2 y3 y4
      unfold antecedentlaw12_CompsReach.l0
      repeat' first
      | (with_reducible exact ih0 _ _ _)
      | (with_reducible exact ih1 _ _ _ _ _)
      | (with_reducible exact ih2 _ _ _ _ _ _ _ _ _ _)
      | (with_reducible exact ih3 _ _ _ _ _ _ _ _ _ _ _ _)
      | (with_reducible exact ih4 _ _ _ _ _ _ _ _ _ _ _ _ _)
      | (with_reducible exact ih5 _ _ _ _ _ _ _ _ _)
      | (with_reducible exact antecedentlaw12_CompsReach_1.mono _ _ _)
      | (with_reducible exact antecedentlaw12_awake.mono _)
      | (with_reducible exact comps_Comps.mono _ _ _)
      | (with_reducible exact comps_Reach.mono _ _ _ _)
      | (with_reducible exact LeO.refl _)
      | (with_reducible exact LeO.none _)
      | (with_reducible refine LeO.ite ?_ ?_)
      | (with_reducible refine LeO.bind ?_ (fun _ => ?_))
      | exact ih0 _ _ _
      | exact ih1 _ _ _ _ _
      | exact ih2 _ _ _ _ _ _ _ _ _ _
      | exact ih3 _ _ _ _ _ _ _ _ _ _ _ _
      | exact ih4 _ _ _ _ _ _ _ _ _ _ _ _ _
      | exact ih5 _ _ _ _ _ _ _ _ _
      | exact antecedentlaw12_CompsReach_1.mono _ _ _
      | exact antecedentlaw12_awake.mono _
      | exact comps_Comps.mono _ _ _
      | exact comps_Reach.mono _ _ _ _
      | exact LeO.none _
      | refine LeO.ite ?_ ?_
      | refine LeO.bind ?_ (fun _ => ?_)
    · intro y0 y1 y2 y3 y4 y5 y6 y7 y8 y9
      unfold antecedentlaw12_CompsReach.l1
      repeat' first
      | (with_reducible exact ih0 _ _ _)
      | (with_reducible exact ih1 _ _ _ _ _)
      | (with_reducible exact ih2 _ _ _ _ _ _ _ _ _ _)
      | (with_reducible exact ih3 _ _ _ _ _ _ _ _ _ _ _ _)
      | (with_reducible exact ih4 _ _ _ _ _ _ _ _ _ _ _ _ _)
      | (with_reducible exact ih5 _ _ _ _ _ _ _ _ _)
      | (with_reducible exact antecedentlaw12_CompsReach_1.mono _ _ _)
      | (with_reducible exact antecedentlaw12_awake.mono _)
      | (with_reducible exact comps_Comps.mono _ _ _)
      | (with_reducible exact comps_Reach.mono _ _ _ _)
      | (with_reducible exact LeO.refl _)
      | (with_reducible exact LeO.none _)
      | (with_reducible refine LeO.ite ?_ ?_)
      | (with_reducible refine LeO.bind ?_ (fun _ => ?_))
      | exact ih0 _ _ _
      | exact ih1 _ _ _ _ _
      | exact ih2 _ _ _ _ _ _ _ _ _ _
      | exact ih3 _ _ _ _ _ _ _ _ _ _ _ _
      | exact ih4 _ _ _ _ _ _ _ _ _ _ _ _ _
      | exact ih5 _ _ _ _ _ _ _ _ _
      | exact antecedentlaw12_CompsReach_1.mono _ _ _
      | exact antecedentlaw12_awake.mono _
      | exact comps_Comps.mono _ _ _
      | exact comps_Reach.mono _ _ _ _
      | exact LeO.none _
      | refine LeO.ite ?_ ?_
      | refine LeO.bind ?_ (fun _ => ?_)
    · intro y0 y1 y2 y3 y4 y5 y6 y7 y8 y9 y10 y11
      unfold antecedentlaw12_CompsReach.j3
      repeat' first
      | (with_reducible exact ih0 _ _ _)
      | (with_reducible exact ih1 _ _ _ _ _)
      | (with_reducible exact ih2 _ _ _ _ _ _ _ _ _ _)
      | (with_reducible exact ih3 _ _ _ _ _ _ _ _ _ _ _ _)
      | (with_reducible exact ih4 _ _ _ _ _ _ _ _ _ _ _ _ _)
      | (with_reducible exact ih5 _ _ _ _ _ _ _ _ _)
      | (with_reducible exact antecedentlaw12_CompsReach_1.mono _ _ _)
      | (with_reducible exact antecedentlaw12_awake.mono _)
      | (with_reducible exact comps_Comps.mono _ _ _)
      | (with_reducible exact comps_Reach.mono _ _ _ _)
      | (with_reducible exact LeO.refl _)
      | (with_reducible exact LeO.none _)
      | (with_reducible refine LeO.ite ?_ ?_)
      | (with_reducible refine LeO.bind ?_ (fun _ => ?_))
      | exact ih0 _ _ _
      | exact ih1 _ _ _ _ _
      | exact ih2 _ _ _ _ _ _ _ _ _ _
      | exact ih3 _ _ _ _ _ _ _ _ _ _ _ _
      | exact ih4 _ _ _ _ _ _ _ _ _ _ _ _ _
      | exact ih5 _ _ _ _ _ _ _ _ _
      | exact antecedentlaw12_CompsReach_1.mono _ _ _
      | exact antecedentlaw12_awake.mono _
      | exact comps_Comps.mono _ _ _
      | exact comps_Reach.mono _ _ _ _
      | exact LeO.none _
      | refine LeO.ite ?_ ?_
      | refine LeO.bind ?_ (fun _ => ?_)
    · intro y0 y1 y2 y3 y4 y5 y6 y7 y8 y9 y10 y11 y12
      unfold antecedentlaw12_CompsReach.l2
      repeat' first
      | (with_reducible exact ih0 _ _ _)
      | (with_reducible exact ih1 _ _ _ _ _)
      | (with_reducible exact ih2 _ _ _ _ _ _ _ _ _ _)
      | (with_reducible exact ih3 _ _ _ _ _ _ _ _ _ _ _ _)
      | (with_reducible exact ih4 _ _ _ _ _ _ _ _ _ _ _ _ _)
      | (with_reducible exact ih5 _ _ _ _ _ _ _ _ _)
      | (with_reducible exact antecedentlaw12_CompsReach_1.mono _ _ _)
      | (with_reducible exact antecedentlaw12_awake.mono _)
      | (with_reducible exact comps_Comps.mono _ _ _)
      | (with_reducible exact comps_Reach.mono _ _ _ _)
      | (with_reducible exact LeO.refl _)
      | (with_reducible exact LeO.none _)
      | (with_reducible refine LeO.ite ?_ ?_)
      | (with_reducible refine LeO.bind ?_ (fun _ => ?_))
      | exact ih0 _ _ _
      | exact ih1 _ _ _ _ _
      | exact ih2 _ _ _ _ _ _ _ _ _ _
      | exact ih3 _ _ _ _ _ _ _ _ _ _ _ _
      | exact ih4 _ _ _ _ _ _ _ _ _ _ _ _ _
      | exact ih5 _ _ _ _ _ _ _ _ _
      | exact antecedentlaw12_CompsReach_1.mono _ _ _
      | exact antecedentlaw12_awake.mono _
      | exact comps_Comps.mono _ _ _
      | exact comps_Reach.mono _ _ _ _
      | exact LeO.none _
      | refine LeO.ite ?_ ?_
      | refine LeO.bind ?_ (fun _ => ?_)
    · intro y0 y1 y2 y3 y4 y5 y6 y7 y8
      unfold antecedentlaw12_CompsReach.l3
      repeat' first
      | (with_reducible exact ih0 _ _ _)
      | (with_reducible exact ih1 _ _ _ _ _)
      | (with_reducible exact ih2 _ _ _ _ _ _ _ _ _ _)
      | (with_reducible exact ih3 _ _ _ _ _ _ _ _ _ _ _ _)
      | (with_reducible exact ih4 _ _ _ _ _ _ _ _ _ _ _ _ _)
      | (with_reducible exact ih5 _ _ _ _ _ _ _ _ _)
      | (with_reducible exact antecedentlaw12_CompsReach_1.mono _ _ _)
      | (with_reducible exact antecedentlaw12_awake.mono _)
      | (with_reducible exact comps_Comps.mono _ _ _)
      | (with_reducible exact comps_Reach.mono _ _ _ _)
      | (with_reducible exact LeO.refl _)
      | (with_reducible exact LeO.none _)
      | (with_reducible refine LeO.ite ?_ ?_)
      | (with_reducible refine LeO.bind ?_ (fun _ => ?_))
      | exact ih0 _ _ _
      | exact ih1 _ _ _ _ _
      | exact ih2 _ _ _ _ _ _ _ _ _ _
      | exact ih3 _ _ _ _ _ _ _ _ _ _ _ _
      | exact ih4 _ _ _ _ _ _ _ _ _ _ _ _ _
      | exact ih5 _ _ _ _ _ _ _ _ _
      | exact antecedentlaw12_CompsReach_1.mono _ _ _
      | exact antecedentlaw12_awake.mono _
      | exact comps_Comps.mono _ _ _
      | exact comps_Reach.mono _ _ _ _
      | exact LeO.none _
      | refine LeO.ite ?_ ?_
      | refine LeO.bind ?_ (fun _ => ?_)
theorem antecedentlaw12_CompsReach.mono : ∀ a0 a1 k, LeO (antecedentlaw12_CompsReach.f k a0 a1) (antecedentlaw12_CompsReach.f (k + 1) a0 a1) := by
  intro a0 a1 k
  obtain ⟨ih0, ih1, ih2, ih3, ih4, ih5⟩ := antecedentlaw12_CompsReach.mono_l k
  unfold antecedentlaw12_CompsReach.f
  repeat' first
      | (with_reducible exact ih0 _ _ _)
      | (with_reducible exact ih1 _ _ _ _ _)
      | (with_reducible exact ih2 _ _ _ _ _ _ _ _ _ _)
      | (with_reducible exact ih3 _ _ _ _ _ _ _ _ _ _ _ _)
      | (with_reducible exact ih4 _ _ _ _ _ _ _ _ _ _ _ _ _)
      | (with_reducible exact ih5 _ _ _ _ _ _ _ _ _)
      | (with_reducible exact antecedentlaw12_CompsReach_1.mono _ _ _)
      | (with_reducible exact antecedentlaw12_awake.mono _)
      | (with_reducible exact comps_Comps.mono _ _ _)
      | (with_reducible exact comps_Reach.mono _ _ _ _)
      | (with_reducible exact LeO.refl _)
      | (with_reducible exact LeO.none _)
      | (with_reducible refine LeO.ite ?_ ?_)
      | (with_reducible refine LeO.bind ?_ (fun _ => ?_))
      | exact ih0 _ _ _
      | exact ih1 _ _ _ _ _
      | exact ih2 _ _ _ _ _ _ _ _ _ _
      | exact ih3 _ _ _ _ _ _ _ _ _ _ _ _
      | exact ih4 _ _ _ _ _ _ _ _ _ _ _ _ _
      | exact ih5 _ _ _ _ _ _ _ _ _
      | exact antecedentlaw12_CompsReach_1.mono _ _ _
      | exact antecedentlaw12_awake.mono _
      | exact comps_Comps.mono _ _ _
      | exact comps_Reach.mono _ _ _ _
      | exact LeO.none _
      | refine LeO.ite ?_ ?_
      | refine LeO.bind ?_ (fun _ => ?_)
set_option maxHeartbeats 8000000 in
set_option maxRecDepth 100000 in
theorem antecedentlaw12_CompsReach.calls (k : Nat) (a0 : Int) (A1 : Option Addr) (c1 : Nat) (l1 : List (S31)) (r : Bool) (w : World) (hr1 : Kd.C k31 w A1 l1.length l1) (hc1 : l1.length ≤ c1) (h : antecedentlaw12_CompsReach.f k a0 l1 = some r) :
    Calls Try.prog 8 #[.int .u8 a0, .slice A1 l1.length c1] w fun e w' => e = .returned (.bool r) ∧ Below w.heap.size w w' := by
  have HR1 := Aside0.mk hr1
  have HC1 := Aside0.mk hc1
  clear hr1 hc1
  have HB := Aside0.mk (Below.refl w.heap.size w)
  have H : ((antecedentlaw12_awake.f k).bind fun t330 => (if t330 = true then (antecedentlaw12_CompsReach.j0 k a0 l1 (decide ((l1.length : Int) > 100))) else (antecedentlaw12_CompsReach.j0 k a0 l1 true))) = some r := h
  clear h
  have HC3 := Aside0.mk H
  clear H
  go_enter Try.func8, Try.ntmps8
  go_upto_region 1 with (fail)
  repeat (go_quiet (fail); go_upto_region 1 with (fail))
  go_cut [21] (fun v21 wc => ∃ (kq : Nat) (x21_2 : Bool), v21 = .bool x21_2 ∧ Aside0 (antecedentlaw12_CompsReach.j0 kq a0 l1 x21_2 = some r) ∧ Aside0 (kq ≤ k) ∧ Aside0 (Below w.heap.size w wc))
  case first =>
    have H := HC3.out
    clear HC3
    replace H := Option.bind_eq_some_iff.mp H
    obtain ⟨t330, A40, H⟩ := H
    replace H : (if t330 = true then (antecedentlaw12_CompsReach.j0 k a0 l1 (decide ((l1.length : Int) > 100))) else (antecedentlaw12_CompsReach.j0 k a0 l1 true)) = some r := H
    have A4 := Aside0.mk A40
    clear A40
    by_cases c5 : t330 = true
    · subst c5
      have H1 : (antecedentlaw12_CompsReach.j0 k a0 l1 (decide ((l1.length : Int) > 100))) = some r := by rw [if_pos rfl] at H; exact H
      clear H
      have H := H1
      clear H1
      have H' := Aside0.mk H
      clear H
      go_wp2_with (first | (go_at_call 9; (with_reducible refine (antecedentlaw12_awake.calls k  true _ A4.out).mono ?_); rintro e w6 ⟨rfl, hb⟩; have n0_ := Aside0.mk (below_step (by repeat (first | (with_reducible first | exact HB.out | apply below_alloc | apply pw_below_drewN | apply below_drew1) | exact HB.out)) hb); clear HB; have HB := n0_; clear n0_; (try clear hb); (try clear hb2); (try clear hk); (try clear hi)))
      repeat (go_quiet (first | (go_at_call 9; (with_reducible refine (antecedentlaw12_awake.calls k  true _ A4.out).mono ?_); rintro e w6 ⟨rfl, hb⟩; have n0_ := Aside0.mk (below_step (by repeat (first | (with_reducible first | exact HB.out | apply below_alloc | apply pw_below_drewN | apply below_drew1) | exact HB.out)) hb); clear HB; have HB := n0_; clear n0_; (try clear hb); (try clear hb2); (try clear hk); (try clear hi))); try go_wp2_with (first | (go_at_call 9; (with_reducible refine (antecedentlaw12_awake.calls k  true _ A4.out).mono ?_); rintro e w6 ⟨rfl, hb⟩; have n0_ := Aside0.mk (below_step (by repeat (first | (with_reducible first | exact HB.out | apply below_alloc | apply pw_below_drewN | apply below_drew1) | exact HB.out)) hb); clear HB; have HB := n0_; clear n0_; (try clear hb); (try clear hb2); (try clear hk); (try clear hi))))
      go_wp2
      repeat (go_quiet (fail); try go_wp2)
      go_meet
      case rel => exact ⟨_, (decide ((l1.length : Int) > 100)), (by first | rfl | (simp; done) | (simp [*]; done)), H', ⟨by first | omega | exact Nat.le_refl _⟩, ⟨by repeat (first | (with_reducible first | exact HB.out | apply below_alloc | apply pw_below_drewN | apply below_drew1) | exact HB.out)⟩⟩
    · replace c5 := Bool.eq_false_iff.mpr c5
      subst c5
      have H1 : (antecedentlaw12_CompsReach.j0 k a0 l1 true) = some r := by rw [if_neg (show ¬ (false = true) by decide)] at H; exact H
      clear H
      have H := H1
      clear H1
      have H' := Aside0.mk H
      clear H
      go_wp2_with (first | (go_at_call 9; (with_reducible refine (antecedentlaw12_awake.calls k  false _ A4.out).mono ?_); rintro e w7 ⟨rfl, hb⟩; have n0_ := Aside0.mk (below_step (by repeat (first | (with_reducible first | exact HB.out | apply below_alloc | apply pw_below_drewN | apply below_drew1) | exact HB.out)) hb); clear HB; have HB := n0_; clear n0_; (try clear hb); (try clear hb2); (try clear hk); (try clear hi)))
      repeat (go_quiet (first | (go_at_call 9; (with_reducible refine (antecedentlaw12_awake.calls k  false _ A4.out).mono ?_); rintro e w7 ⟨rfl, hb⟩; have n0_ := Aside0.mk (below_step (by repeat (first | (with_reducible first | exact HB.out | apply below_alloc | apply pw_below_drewN | apply below_drew1) | exact HB.out)) hb); clear HB; have HB := n0_; clear n0_; (try clear hb); (try clear hb2); (try clear hk); (try clear hi))); try go_wp2_with (first | (go_at_call 9; (with_reducible refine (antecedentlaw12_awake.calls k  false _ A4.out).mono ?_); rintro e w7 ⟨rfl, hb⟩; have n0_ := Aside0.mk (below_step (by repeat (first | (with_reducible first | exact HB.out | apply below_alloc | apply pw_below_drewN | apply below_drew1) | exact HB.out)) hb); clear HB; have HB := n0_; clear n0_; (try clear hb); (try clear hb2); (try clear hk); (try clear hi))))
      go_wp2
      repeat (go_quiet (fail); try go_wp2)
      go_meet
      case rel => exact ⟨_, (true), (by first | rfl | (simp; done) | (simp [*]; done)), H', ⟨by first | omega | exact Nat.le_refl _⟩, ⟨by repeat (first | (with_reducible first | exact HB.out | apply below_alloc | apply pw_below_drewN | apply below_drew1) | exact HB.out)⟩⟩
  case rest =>
    clear HC3
    try clear c1
    try clear p2
    try clear c5
    obtain ⟨kq, x21_2, rfl, HA, HJ2, HB⟩ := hcut
    cases kq with
    | zero => exact absurd HA.out (by simp [antecedentlaw12_CompsReach.j0])
    | succ kj2 =>
      have H := HA.out
      clear HA
      simp only [antecedentlaw12_CompsReach.j0] at H
      by_cases c8 : x21_2 = true
      · subst c8
        have H1 : ((antecedentlaw12_awake.f kj2).bind fun t331 => (some t331)) = some r := by rw [if_pos rfl] at H; exact H
        clear H
        have H := H1
        clear H1
        replace H := Option.bind_eq_some_iff.mp H
        obtain ⟨t331, A90, H⟩ := H
        replace H : (some t331) = some r := H
        have A9 := Aside0.mk A90
        clear A90
        obtain rfl := Option.some.inj H
        go_wp2_with (first | (go_at_call 9; (with_reducible refine (antecedentlaw12_awake.calls kj2  t331 _ A9.out).mono ?_); rintro e w10 ⟨rfl, hb⟩; have n0_ := Aside0.mk (below_step (by repeat (first | (with_reducible first | exact HB.out | apply below_alloc | apply pw_below_drewN | apply below_drew1) | exact HB.out)) hb); clear HB; have HB := n0_; clear n0_; (try clear hb); (try clear hb2); (try clear hk); (try clear hi)))
        repeat (go_quiet (first | (go_at_call 9; (with_reducible refine (antecedentlaw12_awake.calls kj2  t331 _ A9.out).mono ?_); rintro e w10 ⟨rfl, hb⟩; have n0_ := Aside0.mk (below_step (by repeat (first | (with_reducible first | exact HB.out | apply below_alloc | apply pw_below_drewN | apply below_drew1) | exact HB.out)) hb); clear HB; have HB := n0_; clear n0_; (try clear hb); (try clear hb2); (try clear hk); (try clear hi))); try go_wp2_with (first | (go_at_call 9; (with_reducible refine (antecedentlaw12_awake.calls kj2  t331 _ A9.out).mono ?_); rintro e w10 ⟨rfl, hb⟩; have n0_ := Aside0.mk (below_step (by repeat (first | (with_reducible first | exact HB.out | apply below_alloc | apply pw_below_drewN | apply below_drew1) | exact HB.out)) hb); clear HB; have HB := n0_; clear n0_; (try clear hb); (try clear hb2); (try clear hk); (try clear hi))))
        go_wp2
        repeat (go_quiet (fail); try go_wp2)
        go_ret
        exact ⟨by first | rfl | (simp [errW_none, errW_some] <;> rfl) | (simp [*, errW_none, errW_some] <;> rfl), by repeat (first | (with_reducible first | exact HB.out | apply below_alloc | apply pw_below_drewN | apply below_drew1) | exact HB.out)⟩
      · replace c8 := Bool.eq_false_iff.mpr c8
        subst c8
        have H1 : ((comps_Comps.f kj2 (Int.tmod (wrap64 (a0)) 40) l1).bind fun t332 => (if (t332.length : Int) = (Int.tmod (wrap64 (a0)) 40) then (antecedentlaw12_CompsReach.l0 kj2 l1 (Int.tmod (wrap64 (a0)) 40) t332 (Int.tmod (wrap64 (a0)) 40) 0) else (some false))) = some r := by rw [if_neg (show ¬ (false = true) by decide)] at H; exact H
        clear H
        have H := H1
        clear H1
        replace H := Option.bind_eq_some_iff.mp H
        obtain ⟨t332, A110, H⟩ := H
        replace H : (if (t332.length : Int) = (Int.tmod (wrap64 (a0)) 40) then (antecedentlaw12_CompsReach.l0 kj2 l1 (Int.tmod (wrap64 (a0)) 40) t332 (Int.tmod (wrap64 (a0)) 40) 0) else (some false)) = some r := H
        have A11 := Aside0.mk A110
        clear A110
        by_cases c12 : (t332.length : Int) = (Int.tmod (wrap64 (a0)) 40)
        · rw [if_pos c12] at H
          have c12b0 : ((t332.length : Int) == (Int.tmod (wrap64 (a0)) 40)) = true := beq_iff_eq.mpr c12
          have c12b1 : ((t332.length : Int) != (Int.tmod (wrap64 (a0)) 40)) = false := bne_eq_false_iff_eq.mpr c12
          clear c12
          have H' := Aside0.mk H
          clear H
          go_wp2_with (first | (go_at_call 12; (with_reducible refine (comps_Comps.calls kj2 (Int.tmod (wrap64 (a0)) 40) _ _ l1 t332 _ ?side1 ?side2 A11.out).mono ?_); (case side1 => repeat (first | exact (Kd.C_below HR1.out HB.out) | (with_reducible refine Kd.C_alloc ?_ _) | (with_reducible refine Kd.C_drewN ?_ _) | (with_reducible refine Kd.C_drew ?_))); (case side2 => exact HC1.out); rintro e w13 ⟨v333, rfl, ho0, hb⟩; have n0_ := Aside0.mk (Kd.R_lower ho0 (below_size (by repeat (first | (with_reducible first | exact HB.out | apply below_alloc | apply pw_below_drewN | apply below_drew1) | exact HB.out)))); have n1_ := Aside0.mk (below_step (by repeat (first | (with_reducible first | exact HB.out | apply below_alloc | apply pw_below_drewN | apply below_drew1) | exact HB.out)) hb); clear HB; have HO334 := n0_; have HB := n1_; clear n0_ n1_; (try clear hb); (try clear hb2); (try clear hk); (try clear hi); (try clear ho0); obtain ⟨Ao14, co14, eo14⟩ := Kd.R_slice HO334.out; subst eo14))
          repeat (go_quiet (first | (go_at_call 12; (with_reducible refine (comps_Comps.calls kj2 (Int.tmod (wrap64 (a0)) 40) _ _ l1 t332 _ ?side1 ?side2 A11.out).mono ?_); (case side1 => repeat (first | exact (Kd.C_below HR1.out HB.out) | (with_reducible refine Kd.C_alloc ?_ _) | (with_reducible refine Kd.C_drewN ?_ _) | (with_reducible refine Kd.C_drew ?_))); (case side2 => exact HC1.out); rintro e w13 ⟨v333, rfl, ho0, hb⟩; have n0_ := Aside0.mk (Kd.R_lower ho0 (below_size (by repeat (first | (with_reducible first | exact HB.out | apply below_alloc | apply pw_below_drewN | apply below_drew1) | exact HB.out)))); have n1_ := Aside0.mk (below_step (by repeat (first | (with_reducible first | exact HB.out | apply below_alloc | apply pw_below_drewN | apply below_drew1) | exact HB.out)) hb); clear HB; have HO334 := n0_; have HB := n1_; clear n0_ n1_; (try clear hb); (try clear hb2); (try clear hk); (try clear hi); (try clear ho0); obtain ⟨Ao14, co14, eo14⟩ := Kd.R_slice HO334.out; subst eo14)); try go_wp2_with (first | (go_at_call 12; (with_reducible refine (comps_Comps.calls kj2 (Int.tmod (wrap64 (a0)) 40) _ _ l1 t332 _ ?side1 ?side2 A11.out).mono ?_); (case side1 => repeat (first | exact (Kd.C_below HR1.out HB.out) | (with_reducible refine Kd.C_alloc ?_ _) | (with_reducible refine Kd.C_drewN ?_ _) | (with_reducible refine Kd.C_drew ?_))); (case side2 => exact HC1.out); rintro e w13 ⟨v333, rfl, ho0, hb⟩; have n0_ := Aside0.mk (Kd.R_lower ho0 (below_size (by repeat (first | (with_reducible first | exact HB.out | apply below_alloc | apply pw_below_drewN | apply below_drew1) | exact HB.out)))); have n1_ := Aside0.mk (below_step (by repeat (first | (with_reducible first | exact HB.out | apply below_alloc | apply pw_below_drewN | apply below_drew1) | exact HB.out)) hb); clear HB; have HO334 := n0_; have HB := n1_; clear n0_ n1_; (try clear hb); (try clear hb2); (try clear hk); (try clear hi); (try clear ho0); obtain ⟨Ao14, co14, eo14⟩ := Kd.R_slice HO334.out; subst eo14)))
          go_wp2
          repeat (go_quiet (fail); try go_wp2)
          go_loopg [34] kj2 (fun kq v34 w' => ∃ (x34_2 : Int), v34 = .int .i64 x34_2 ∧ Aside0 (antecedentlaw12_CompsReach.l0 kq l1 (Int.tmod (wrap64 (a0)) 40) t332 (Int.tmod (wrap64 (a0)) 40) x34_2 = some r) ∧ Aside0 (kq ≤ kj2) ∧ Aside0 (Kd.R (Kd.int .i64) 3 w' w.heap.size (fun _ => True) (.slice Ao14 t332.length co14) t332) ∧ Aside0 (Below w.heap.size w w'))
          case atStart => exact ⟨(0), (by first | rfl | (simp; done) | (simp [*]; done)), H', ⟨Nat.le_refl _⟩, ⟨by (with_reducible repeat (first | apply Kd.R_alloc | apply Kd.R_drewN | apply Kd.R_drew)); exact HO334.out⟩, ⟨by repeat (first | (with_reducible first | exact HB.out | apply below_alloc | apply pw_below_drewN | apply below_drew1) | exact HB.out)⟩⟩
          case round =>
            clear H'
            try clear c1
            try clear p2
            try clear c5
            try clear p6
            try clear c8
            try clear c12
            try clear c12b0
            try clear c12b1
            try clear p2
            obtain ⟨x34_2, rfl, HA, HK2, HO_6, HB⟩ := hrel
            cases gk with
            | zero => exact absurd HA.out (by simp [antecedentlaw12_CompsReach.l0])
            | succ k2 =>
              have H := HA.out
              clear HA
              simp only [antecedentlaw12_CompsReach.l0] at H
              by_cases c15 : x34_2 < (Int.tmod (wrap64 (a0)) 40)
              · rw [if_pos c15] at H
                have c15b0 : decide (x34_2 < (Int.tmod (wrap64 (a0)) 40)) = true := decide_eq_true c15
                clear c15
                replace H := Option.bind_eq_some_iff.mp H
                obtain ⟨t335, A160, H⟩ := H
                replace H : ((antecedentlaw12_CompsReach_1.f k2 t335 x34_2).bind fun t338 => (if t338 = true then (antecedentlaw12_CompsReach.l1 k2 l1 (Int.tmod (wrap64 (a0)) 40) t332 x34_2 t335 (Int.tmod (wrap64 (a0)) 40) x34_2 t335 (t335.length : Int) 0) else (some false))) = some r := H
                have A16 := Aside0.mk A160
                clear A160
                replace H := Option.bind_eq_some_iff.mp H
                obtain ⟨t338, A170, H⟩ := H
                replace H : (if t338 = true then (antecedentlaw12_CompsReach.l1 k2 l1 (Int.tmod (wrap64 (a0)) 40) t332 x34_2 t335 (Int.tmod (wrap64 (a0)) 40) x34_2 t335 (t335.length : Int) 0) else (some false)) = some r := H
                have A17 := Aside0.mk A170
                clear A170
                by_cases c18 : t338 = true
                · subst c18
                  have H1 : (antecedentlaw12_CompsReach.l1 k2 l1 (Int.tmod (wrap64 (a0)) 40) t332 x34_2 t335 (Int.tmod (wrap64 (a0)) 40) x34_2 t335 (t335.length : Int) 0) = some r := by rw [if_pos rfl] at H; exact H
                  clear H
                  have H := H1
                  clear H1
                  have H' := Aside0.mk H
                  clear H
                  go_wp2_with (first | (go_at_call 14; (with_reducible refine (comps_Reach.calls k2 (Int.tmod (wrap64 (a0)) 40) _ _ l1 x34_2 t335 _ ?side1 ?side2 A16.out).mono ?_); (case side1 => repeat (first | exact (Kd.C_below HR1.out HB.out) | (with_reducible refine Kd.C_alloc ?_ _) | (with_reducible refine Kd.C_drewN ?_ _) | (with_reducible refine Kd.C_drew ?_))); (case side2 => exact HC1.out); rintro e w19 ⟨v336, rfl, ho0, hb⟩; have n0_ := Aside0.mk (Kd.R_elder' (by (with_reducible repeat (first | apply Kd.R_alloc | apply Kd.R_drewN | apply Kd.R_drew)); exact HO_6.out) (Kd.R_base ho0) hb); have n1_ := Aside0.mk (Kd.R_lower (Kd.R_new' ho0 (Kd.R_lt (by (with_reducible repeat (first | apply Kd.R_alloc | apply Kd.R_drewN | apply Kd.R_drew)); exact HO_6.out))) (below_size (by repeat (first | (with_reducible first | exact HB.out | apply below_alloc | apply pw_below_drewN | apply below_drew1) | exact HB.out)))); have n2_ := Aside0.mk (below_step (by repeat (first | (with_reducible first | exact HB.out | apply below_alloc | apply pw_below_drewN | apply below_drew1) | exact HB.out)) hb); clear HO_6; clear HB; have HO_6 := n0_; have HO337 := n1_; have HB := n2_; clear n0_ n1_ n2_; (try clear hb); (try clear hb2); (try clear hk); (try clear hi); (try clear ho0); obtain ⟨Ao20, co20, eo20⟩ := Kd.R_slice HO337.out; subst eo20) | (go_at_call 16; (with_reducible refine (antecedentlaw12_CompsReach_1.calls k2 _ _ t335 x34_2 true _ ?side1 ?side2 A17.out).mono ?_); (case side1 => repeat (first | exact (Kd.R_reads' HO337.out).2.2 | (with_reducible refine Kd.C_alloc ?_ _) | (with_reducible refine Kd.C_drewN ?_ _) | (with_reducible refine Kd.C_drew ?_))); (case side2 => exact (Kd.R_reads' HO337.out).2.1); rintro e w' ⟨rfl, ⟨nd, rfl⟩⟩; (try first | exact ⟨rfl, _, World.drewN_drewN _ _ _⟩ | exact ⟨rfl, _, Eq.trans (World.drewN_drewN _ _ _) (congrArg (World.drewN _) (Nat.add_assoc _ _ _))⟩)))
                  repeat (go_quiet (first | (go_at_call 14; (with_reducible refine (comps_Reach.calls k2 (Int.tmod (wrap64 (a0)) 40) _ _ l1 x34_2 t335 _ ?side1 ?side2 A16.out).mono ?_); (case side1 => repeat (first | exact (Kd.C_below HR1.out HB.out) | (with_reducible refine Kd.C_alloc ?_ _) | (with_reducible refine Kd.C_drewN ?_ _) | (with_reducible refine Kd.C_drew ?_))); (case side2 => exact HC1.out); rintro e w19 ⟨v336, rfl, ho0, hb⟩; have n0_ := Aside0.mk (Kd.R_elder' (by (with_reducible repeat (first | apply Kd.R_alloc | apply Kd.R_drewN | apply Kd.R_drew)); exact HO_6.out) (Kd.R_base ho0) hb); have n1_ := Aside0.mk (Kd.R_lower (Kd.R_new' ho0 (Kd.R_lt (by (with_reducible repeat (first | apply Kd.R_alloc | apply Kd.R_drewN | apply Kd.R_drew)); exact HO_6.out))) (below_size (by repeat (first | (with_reducible first | exact HB.out | apply below_alloc | apply pw_below_drewN | apply below_drew1) | exact HB.out)))); have n2_ := Aside0.mk (below_step (by repeat (first | (with_reducible first | exact HB.out | apply below_alloc | apply pw_below_drewN | apply below_drew1) | exact HB.out)) hb); clear HO_6; clear HB; have HO_6 := n0_; have HO337 := n1_; have HB := n2_; clear n0_ n1_ n2_; (try clear hb); (try clear hb2); (try clear hk); (try clear hi); (try clear ho0); obtain ⟨Ao20, co20, eo20⟩ := Kd.R_slice HO337.out; subst eo20) | (go_at_call 16; (with_reducible refine (antecedentlaw12_CompsReach_1.calls k2 _ _ t335 x34_2 true _ ?side1 ?side2 A17.out).mono ?_); (case side1 => repeat (first | exact (Kd.R_reads' HO337.out).2.2 | (with_reducible refine Kd.C_alloc ?_ _) | (with_reducible refine Kd.C_drewN ?_ _) | (with_reducible refine Kd.C_drew ?_))); (case side2 => exact (Kd.R_reads' HO337.out).2.1); rintro e w' ⟨rfl, ⟨nd, rfl⟩⟩; (try first | exact ⟨rfl, _, World.drewN_drewN _ _ _⟩ | exact ⟨rfl, _, Eq.trans (World.drewN_drewN _ _ _) (congrArg (World.drewN _) (Nat.add_assoc _ _ _))⟩))); try go_wp2_with (first | (go_at_call 14; (with_reducible refine (comps_Reach.calls k2 (Int.tmod (wrap64 (a0)) 40) _ _ l1 x34_2 t335 _ ?side1 ?side2 A16.out).mono ?_); (case side1 => repeat (first | exact (Kd.C_below HR1.out HB.out) | (with_reducible refine Kd.C_alloc ?_ _) | (with_reducible refine Kd.C_drewN ?_ _) | (with_reducible refine Kd.C_drew ?_))); (case side2 => exact HC1.out); rintro e w19 ⟨v336, rfl, ho0, hb⟩; have n0_ := Aside0.mk (Kd.R_elder' (by (with_reducible repeat (first | apply Kd.R_alloc | apply Kd.R_drewN | apply Kd.R_drew)); exact HO_6.out) (Kd.R_base ho0) hb); have n1_ := Aside0.mk (Kd.R_lower (Kd.R_new' ho0 (Kd.R_lt (by (with_reducible repeat (first | apply Kd.R_alloc | apply Kd.R_drewN | apply Kd.R_drew)); exact HO_6.out))) (below_size (by repeat (first | (with_reducible first | exact HB.out | apply below_alloc | apply pw_below_drewN | apply below_drew1) | exact HB.out)))); have n2_ := Aside0.mk (below_step (by repeat (first | (with_reducible first | exact HB.out | apply below_alloc | apply pw_below_drewN | apply below_drew1) | exact HB.out)) hb); clear HO_6; clear HB; have HO_6 := n0_; have HO337 := n1_; have HB := n2_; clear n0_ n1_ n2_; (try clear hb); (try clear hb2); (try clear hk); (try clear hi); (try clear ho0); obtain ⟨Ao20, co20, eo20⟩ := Kd.R_slice HO337.out; subst eo20) | (go_at_call 16; (with_reducible refine (antecedentlaw12_CompsReach_1.calls k2 _ _ t335 x34_2 true _ ?side1 ?side2 A17.out).mono ?_); (case side1 => repeat (first | exact (Kd.R_reads' HO337.out).2.2 | (with_reducible refine Kd.C_alloc ?_ _) | (with_reducible refine Kd.C_drewN ?_ _) | (with_reducible refine Kd.C_drew ?_))); (case side2 => exact (Kd.R_reads' HO337.out).2.1); rintro e w' ⟨rfl, ⟨nd, rfl⟩⟩; (try first | exact ⟨rfl, _, World.drewN_drewN _ _ _⟩ | exact ⟨rfl, _, Eq.trans (World.drewN_drewN _ _ _) (congrArg (World.drewN _) (Nat.add_assoc _ _ _))⟩))))
                  go_wp2
                  repeat (go_quiet (fail); try go_wp2)
                  go_loopg [48] k2 (fun kq v48 w' => ∃ (x48_3 : Int), v48 = .int .i64 x48_3 ∧ Aside0 (antecedentlaw12_CompsReach.l1 kq l1 (Int.tmod (wrap64 (a0)) 40) t332 x34_2 t335 (Int.tmod (wrap64 (a0)) 40) x34_2 t335 (t335.length : Int) x48_3 = some r) ∧ Aside0 (kq ≤ k2) ∧ Aside0 (Kd.R (Kd.int .i64) 3 w' w.heap.size (fun k_ => some k_ ≠ ((.slice Ao20 t335.length co20) : Value).ownBlock ∧ some k_ ≠ ((.slice Ao20 t335.length co20) : Value).ownBlock) (.slice Ao14 t332.length co14) t332) ∧ Aside0 (Kd.R (Kd.int .i64) 3 w' w.heap.size (fun k_ => some k_ ≠ ((.slice Ao14 t332.length co14) : Value).ownBlock) (.slice Ao20 t335.length co20) t335) ∧ Aside0 (Kd.R (Kd.int .i64) 3 w' w.heap.size (fun k_ => some k_ ≠ ((.slice Ao14 t332.length co14) : Value).ownBlock) (.slice Ao20 t335.length co20) t335) ∧ Aside0 (Below w.heap.size w w'))
                  case atStart => exact ⟨(0), (by first | rfl | (simp; done) | (simp [*]; done)), H', ⟨Nat.le_refl _⟩, ⟨by (with_reducible repeat (first | apply Kd.R_alloc | apply Kd.R_drewN | apply Kd.R_drew)); exact Kd.R_mono HO_6.out (fun _ hk => ⟨hk.2, hk.2⟩)⟩, ⟨by (with_reducible repeat (first | apply Kd.R_alloc | apply Kd.R_drewN | apply Kd.R_drew)); exact Kd.R_mono HO337.out (fun _ hk => hk.2)⟩, ⟨by (with_reducible repeat (first | apply Kd.R_alloc | apply Kd.R_drewN | apply Kd.R_drew)); exact Kd.R_mono HO337.out (fun _ hk => hk.2)⟩, ⟨by repeat (first | (with_reducible first | exact HB.out | apply below_alloc | apply pw_below_drewN | apply below_drew1) | exact HB.out)⟩⟩
                  case round =>
                    clear H'
                    try clear c1
                    try clear p2
                    try clear c5
                    try clear p6
                    try clear c8
                    try clear c12
                    try clear c12b0
                    try clear c12b1
                    try clear c15
                    try clear c15b0
                    try clear c18
                    try clear p2
                    try clear p6
                    obtain ⟨x48_3, rfl, HA, HK3, HO_6, HO_9, HO_46, HB⟩ := hrel
                    cases gk with
                    | zero => exact absurd HA.out (by simp [antecedentlaw12_CompsReach.l1])
                    | succ k3 =>
                      have H := HA.out
                      clear HA
                      simp only [antecedentlaw12_CompsReach.l1] at H
                      by_cases c21 : x48_3 < (t335.length : Int)
                      · rw [if_pos c21] at H
                        have c21b0 : decide (x48_3 < (t335.length : Int)) = true := decide_eq_true c21
                        clear c21
                        by_cases c22 : 0 ≤ x48_3
                        · rw [if_pos c22] at H
                          have c22b0 : decide (0 ≤ x48_3) = true := decide_eq_true c22
                          clear c22
                          by_cases c23 : x48_3 < (t335.length : Int)
                          · rw [if_pos c23] at H
                            have c23b0 : decide (x48_3 < (t335.length : Int)) = true := decide_eq_true c23
                            clear c23
                            have HC24 := Aside0.mk H
                            clear H
                            have p339 : 0 ≤ (x48_3 : Int) := of_decide_eq_true (by first | (with_reducible assumption) | assumption)
                            have q339 : x48_3 < (t335.length : Int) := of_decide_eq_true (by first | (with_reducible assumption) | assumption)
                            obtain ⟨ad339, e339, hx339_0⟩ := Kd.at_int (Kd.R_reads' HO_46.out).2.2 x48_3 p339 q339
                            cases e339
                            replace p339 := eq_true p339
                            replace q339 := eq_true q339
                            go_upto_region 17 with (fail)
                            repeat (go_quiet (fail); go_upto_region 17 with (fail))
                            go_cut [69] (fun v69 wc => ∃ (kq : Nat) (x69_23 : Bool), v69 = .bool x69_23 ∧ Aside0 (antecedentlaw12_CompsReach.j3 kq l1 (Int.tmod (wrap64 (a0)) 40) t332 x34_2 t335 (rd t335 x48_3) (Int.tmod (wrap64 (a0)) 40) x34_2 t335 (t335.length : Int) x48_3 x69_23 = some r) ∧ Aside0 (kq ≤ k3) ∧ Aside0 (Kd.R (Kd.int .i64) 3 wc w.heap.size (fun k_ => some k_ ≠ ((.slice (some ad339) t335.length co20) : Value).ownBlock ∧ some k_ ≠ ((.slice (some ad339) t335.length co20) : Value).ownBlock) (.slice Ao14 t332.length co14) t332) ∧ Aside0 (Kd.R (Kd.int .i64) 3 wc w.heap.size (fun k_ => some k_ ≠ ((.slice Ao14 t332.length co14) : Value).ownBlock) (.slice (some ad339) t335.length co20) t335) ∧ Aside0 (Kd.R (Kd.int .i64) 3 wc w.heap.size (fun k_ => some k_ ≠ ((.slice Ao14 t332.length co14) : Value).ownBlock) (.slice (some ad339) t335.length co20) t335) ∧ Aside0 (Below w.heap.size w wc))
                            case first =>
                              have H := HC24.out
                              clear HC24
                              by_cases c25 : (rd t335 x48_3) < 0
                              · rw [if_pos c25] at H
                                have c25b0 : decide ((rd t335 x48_3) < 0) = true := decide_eq_true c25
                                clear c25
                                (first | rw [c25b0] | (simp only [i64_w, i32_w]; rw [c25b0]) | skip)
                                have H' := Aside0.mk H
                                clear H
                                go_wp2
                                repeat (go_quiet (fail); try go_wp2)
                                go_meet
                                case rel => exact ⟨_, (true), (by first | rfl | (simp; done) | (simp [*]; done)), H', ⟨by have := HJ2.out; have := HK2.out; have := HK3.out; first | omega | exact Nat.le_refl _⟩, ⟨by (with_reducible repeat (first | apply Kd.R_alloc | apply Kd.R_drewN | apply Kd.R_drew)); exact HO_6.out⟩, ⟨by (with_reducible repeat (first | apply Kd.R_alloc | apply Kd.R_drewN | apply Kd.R_drew)); exact HO_9.out⟩, ⟨by (with_reducible repeat (first | apply Kd.R_alloc | apply Kd.R_drewN | apply Kd.R_drew)); exact HO_46.out⟩, ⟨by repeat (first | (with_reducible first | exact HB.out | apply below_alloc | apply pw_below_drewN | apply below_drew1) | exact HB.out)⟩⟩
                              · rw [if_neg c25] at H
                                have c25b0 : decide ((rd t335 x48_3) < 0) = false := decide_eq_false c25
                                clear c25
                                (first | rw [c25b0] | (simp only [i64_w, i32_w]; rw [c25b0]) | skip)
                                by_cases c26 : (rd t335 x48_3) ≥ (Int.tmod (wrap64 (a0)) 40)
                                · rw [if_pos c26] at H
                                  have c26b0 : decide ((Int.tmod (wrap64 (a0)) 40) ≤ (rd t335 x48_3)) = true := decide_eq_true c26
                                  clear c26
                                  have H' := Aside0.mk H
                                  clear H
                                  go_wp2
                                  repeat (go_quiet (fail); try go_wp2)
                                  go_meet
                                  case rel => exact ⟨_, (true), (by first | rfl | (simp; done) | (simp [*]; done)), H', ⟨by have := HJ2.out; have := HK2.out; have := HK3.out; first | omega | exact Nat.le_refl _⟩, ⟨by (with_reducible repeat (first | apply Kd.R_alloc | apply Kd.R_drewN | apply Kd.R_drew)); exact HO_6.out⟩, ⟨by (with_reducible repeat (first | apply Kd.R_alloc | apply Kd.R_drewN | apply Kd.R_drew)); exact HO_9.out⟩, ⟨by (with_reducible repeat (first | apply Kd.R_alloc | apply Kd.R_drewN | apply Kd.R_drew)); exact HO_46.out⟩, ⟨by repeat (first | (with_reducible first | exact HB.out | apply below_alloc | apply pw_below_drewN | apply below_drew1) | exact HB.out)⟩⟩
                                · rw [if_neg c26] at H
                                  have c26b0 : decide ((Int.tmod (wrap64 (a0)) 40) ≤ (rd t335 x48_3)) = false := decide_eq_false c26
                                  clear c26
                                  by_cases c27 : 0 ≤ (rd t335 x48_3)
                                  · rw [if_pos c27] at H
                                    have c27b0 : decide (0 ≤ (rd t335 x48_3)) = true := decide_eq_true c27
                                    clear c27
                                    by_cases c28 : (rd t335 x48_3) < (t332.length : Int)
                                    · rw [if_pos c28] at H
                                      have c28b0 : decide ((rd t335 x48_3) < (t332.length : Int)) = true := decide_eq_true c28
                                      clear c28
                                      by_cases c29 : 0 ≤ x34_2
                                      · rw [if_pos c29] at H
                                        have c29b0 : decide (0 ≤ x34_2) = true := decide_eq_true c29
                                        clear c29
                                        by_cases c30 : x34_2 < (t332.length : Int)
                                        · rw [if_pos c30] at H
                                          have c30b0 : decide (x34_2 < (t332.length : Int)) = true := decide_eq_true c30
                                          clear c30
                                          have H' := Aside0.mk H
                                          clear H
                                          have p340 : 0 ≤ ((rd t335 x48_3) : Int) := of_decide_eq_true (by first | (with_reducible assumption) | assumption)
                                          have q340 : (rd t335 x48_3) < (t332.length : Int) := of_decide_eq_true (by first | (with_reducible assumption) | assumption)
                                          obtain ⟨ad340, e340, hx340_0⟩ := Kd.at_int (Kd.R_reads' HO_6.out).2.2 (rd t335 x48_3) p340 q340
                                          cases e340
                                          replace p340 := eq_true p340
                                          replace q340 := eq_true q340
                                          have p341 : 0 ≤ (x34_2 : Int) := of_decide_eq_true (by first | (with_reducible assumption) | assumption)
                                          have q341 : x34_2 < (t332.length : Int) := of_decide_eq_true (by first | (with_reducible assumption) | assumption)
                                          obtain ⟨ad341, e341, hx341_0⟩ := Kd.at_int (Kd.R_reads' HO_6.out).2.2 x34_2 p341 q341
                                          obtain rfl : ad340 = ad341 := (by injection e341)
                                          replace p341 := eq_true p341
                                          replace q341 := eq_true q341
                                          go_wp2
                                          repeat (go_quiet (fail); try go_wp2)
                                          go_meet
                                          case rel => exact ⟨_, (decide ((rd t332 (rd t335 x48_3)) > (rd t332 x34_2))), (by first | rfl | (simp; done) | (simp [*]; done)), H', ⟨by have := HJ2.out; have := HK2.out; have := HK3.out; first | omega | exact Nat.le_refl _⟩, ⟨by (with_reducible repeat (first | apply Kd.R_alloc | apply Kd.R_drewN | apply Kd.R_drew)); exact HO_6.out⟩, ⟨by (with_reducible repeat (first | apply Kd.R_alloc | apply Kd.R_drewN | apply Kd.R_drew)); exact HO_9.out⟩, ⟨by (with_reducible repeat (first | apply Kd.R_alloc | apply Kd.R_drewN | apply Kd.R_drew)); exact HO_46.out⟩, ⟨by repeat (first | (with_reducible first | exact HB.out | apply below_alloc | apply pw_below_drewN | apply below_drew1) | exact HB.out)⟩⟩
                                        · rw [if_neg c30] at H
                                          exact absurd H (by simp)
                                      · rw [if_neg c29] at H
                                        exact absurd H (by simp)
                                    · rw [if_neg c28] at H
                                      exact absurd H (by simp)
                                  · rw [if_neg c27] at H
                                    exact absurd H (by simp)
                            case rest =>
                              clear HC24
                              try clear c1
                              try clear c2
                              try clear p2
                              try clear c3
                              try clear p3
                              try clear q3
                              try clear hx3
                              try clear c5
                              try clear p6
                              try clear c8
                              try clear c12
                              try clear c12b0
                              try clear c12b1
                              try clear c15
                              try clear c15b0
                              try clear c18
                              try clear c21
                              try clear c21b0
                              try clear c22
                              try clear c22b0
                              try clear c23
                              try clear c23b0
                              try clear c25
                              try clear c25b0
                              try clear c26
                              try clear c26b0
                              try clear c27
                              try clear c27b0
                              try clear c28
                              try clear c28b0
                              try clear c29
                              try clear c29b0
                              try clear c30
                              try clear c30b0
                              try clear hx339_0
                              try clear hx340_0
                              try clear hx341_0
                              try clear p2
                              try clear p339
                              try clear p340
                              try clear p341
                              try clear p6
                              try clear q339
                              try clear q340
                              try clear q341
                              obtain ⟨kq, x69_23, rfl, HA, HJ23, HO_6, HO_9, HO_46, HB⟩ := hcut
                              cases kq with
                              | zero => exact absurd HA.out (by simp [antecedentlaw12_CompsReach.j3])
                              | succ kj23 =>
                                have H := HA.out
                                clear HA
                                simp only [antecedentlaw12_CompsReach.j3] at H
                                by_cases c31 : x69_23 = true
                                · subst c31
                                  have H1 : (some false) = some r := by rw [if_pos rfl] at H; exact H
                                  clear H
                                  have H := H1
                                  clear H1
                                  obtain rfl := Option.some.inj H
                                  go_wp2
                                  repeat (go_quiet (fail); try go_wp2)
                                  go_ret
                                  exact ⟨by first | rfl | (simp [errW_none, errW_some] <;> rfl) | (simp [*, errW_none, errW_some] <;> rfl), by repeat (first | (with_reducible first | exact HB.out | apply below_alloc | apply pw_below_drewN | apply below_drew1) | exact HB.out)⟩
                                · replace c31 := Bool.eq_false_iff.mpr c31
                                  subst c31
                                  have H1 : ((comps_Reach.f kj23 (Int.tmod (wrap64 (a0)) 40) l1 (rd t335 x48_3)).bind fun t342 => (antecedentlaw12_CompsReach.l2 kj23 l1 (Int.tmod (wrap64 (a0)) 40) t332 x34_2 t335 (Int.tmod (wrap64 (a0)) 40) x34_2 t335 (t335.length : Int) x48_3 t342 (t342.length : Int) 0)) = some r := by rw [if_neg (show ¬ (false = true) by decide)] at H; exact H
                                  clear H
                                  have H := H1
                                  clear H1
                                  replace H := Option.bind_eq_some_iff.mp H
                                  obtain ⟨t342, A320, H⟩ := H
                                  replace H : (antecedentlaw12_CompsReach.l2 kj23 l1 (Int.tmod (wrap64 (a0)) 40) t332 x34_2 t335 (Int.tmod (wrap64 (a0)) 40) x34_2 t335 (t335.length : Int) x48_3 t342 (t342.length : Int) 0) = some r := H
                                  have A32 := Aside0.mk A320
                                  clear A320
                                  have H' := Aside0.mk H
                                  clear H
                                  go_wp2_with (first | (go_at_call 14; (with_reducible refine (comps_Reach.calls kj23 (Int.tmod (wrap64 (a0)) 40) _ _ l1 (rd t335 x48_3) t342 _ ?side1 ?side2 A32.out).mono ?_); (case side1 => repeat (first | exact (Kd.C_below HR1.out HB.out) | (with_reducible refine Kd.C_alloc ?_ _) | (with_reducible refine Kd.C_drewN ?_ _) | (with_reducible refine Kd.C_drew ?_))); (case side2 => exact HC1.out); rintro e w33 ⟨v343, rfl, ho0, hb⟩; have n0_ := Aside0.mk (Kd.R_elder' (by (with_reducible repeat (first | apply Kd.R_alloc | apply Kd.R_drewN | apply Kd.R_drew)); exact HO_6.out) (Kd.R_base ho0) hb); have n1_ := Aside0.mk (Kd.R_elder' (by (with_reducible repeat (first | apply Kd.R_alloc | apply Kd.R_drewN | apply Kd.R_drew)); exact HO_9.out) (Kd.R_base ho0) hb); have n2_ := Aside0.mk (Kd.R_elder' (by (with_reducible repeat (first | apply Kd.R_alloc | apply Kd.R_drewN | apply Kd.R_drew)); exact HO_46.out) (Kd.R_base ho0) hb); have n3_ := Aside0.mk (Kd.R_lower (Kd.R_new' (Kd.R_new' (Kd.R_new' ho0 (Kd.R_lt (by (with_reducible repeat (first | apply Kd.R_alloc | apply Kd.R_drewN | apply Kd.R_drew)); exact HO_6.out))) (Kd.R_lt (by (with_reducible repeat (first | apply Kd.R_alloc | apply Kd.R_drewN | apply Kd.R_drew)); exact HO_9.out))) (Kd.R_lt (by (with_reducible repeat (first | apply Kd.R_alloc | apply Kd.R_drewN | apply Kd.R_drew)); exact HO_46.out))) (below_size (by repeat (first | (with_reducible first | exact HB.out | apply below_alloc | apply pw_below_drewN | apply below_drew1) | exact HB.out)))); have n4_ := Aside0.mk (below_step (by repeat (first | (with_reducible first | exact HB.out | apply below_alloc | apply pw_below_drewN | apply below_drew1) | exact HB.out)) hb); clear HO_6; clear HO_9; clear HO_46; clear HB; have HO_6 := n0_; have HO_9 := n1_; have HO_46 := n2_; have HO344 := n3_; have HB := n4_; clear n0_ n1_ n2_ n3_ n4_; (try clear hb); (try clear hb2); (try clear hk); (try clear hi); (try clear ho0); obtain ⟨Ao34, co34, eo34⟩ := Kd.R_slice HO344.out; subst eo34))
                                  repeat (go_quiet (first | (go_at_call 14; (with_reducible refine (comps_Reach.calls kj23 (Int.tmod (wrap64 (a0)) 40) _ _ l1 (rd t335 x48_3) t342 _ ?side1 ?side2 A32.out).mono ?_); (case side1 => repeat (first | exact (Kd.C_below HR1.out HB.out) | (with_reducible refine Kd.C_alloc ?_ _) | (with_reducible refine Kd.C_drewN ?_ _) | (with_reducible refine Kd.C_drew ?_))); (case side2 => exact HC1.out); rintro e w33 ⟨v343, rfl, ho0, hb⟩; have n0_ := Aside0.mk (Kd.R_elder' (by (with_reducible repeat (first | apply Kd.R_alloc | apply Kd.R_drewN | apply Kd.R_drew)); exact HO_6.out) (Kd.R_base ho0) hb); have n1_ := Aside0.mk (Kd.R_elder' (by (with_reducible repeat (first | apply Kd.R_alloc | apply Kd.R_drewN | apply Kd.R_drew)); exact HO_9.out) (Kd.R_base ho0) hb); have n2_ := Aside0.mk (Kd.R_elder' (by (with_reducible repeat (first | apply Kd.R_alloc | apply Kd.R_drewN | apply Kd.R_drew)); exact HO_46.out) (Kd.R_base ho0) hb); have n3_ := Aside0.mk (Kd.R_lower (Kd.R_new' (Kd.R_new' (Kd.R_new' ho0 (Kd.R_lt (by (with_reducible repeat (first | apply Kd.R_alloc | apply Kd.R_drewN | apply Kd.R_drew)); exact HO_6.out))) (Kd.R_lt (by (with_reducible repeat (first | apply Kd.R_alloc | apply Kd.R_drewN | apply Kd.R_drew)); exact HO_9.out))) (Kd.R_lt (by (with_reducible repeat (first | apply Kd.R_alloc | apply Kd.R_drewN | apply Kd.R_drew)); exact HO_46.out))) (below_size (by repeat (first | (with_reducible first | exact HB.out | apply below_alloc | apply pw_below_drewN | apply below_drew1) | exact HB.out)))); have n4_ := Aside0.mk (below_step (by repeat (first | (with_reducible first | exact HB.out | apply below_alloc | apply pw_below_drewN | apply below_drew1) | exact HB.out)) hb); clear HO_6; clear HO_9; clear HO_46; clear HB; have HO_6 := n0_; have HO_9 := n1_; have HO_46 := n2_; have HO344 := n3_; have HB := n4_; clear n0_ n1_ n2_ n3_ n4_; (try clear hb); (try clear hb2); (try clear hk); (try clear hi); (try clear ho0); obtain ⟨Ao34, co34, eo34⟩ := Kd.R_slice HO344.out; subst eo34)); try go_wp2_with (first | (go_at_call 14; (with_reducible refine (comps_Reach.calls kj23 (Int.tmod (wrap64 (a0)) 40) _ _ l1 (rd t335 x48_3) t342 _ ?side1 ?side2 A32.out).mono ?_); (case side1 => repeat (first | exact (Kd.C_below HR1.out HB.out) | (with_reducible refine Kd.C_alloc ?_ _) | (with_reducible refine Kd.C_drewN ?_ _) | (with_reducible refine Kd.C_drew ?_))); (case side2 => exact HC1.out); rintro e w33 ⟨v343, rfl, ho0, hb⟩; have n0_ := Aside0.mk (Kd.R_elder' (by (with_reducible repeat (first | apply Kd.R_alloc | apply Kd.R_drewN | apply Kd.R_drew)); exact HO_6.out) (Kd.R_base ho0) hb); have n1_ := Aside0.mk (Kd.R_elder' (by (with_reducible repeat (first | apply Kd.R_alloc | apply Kd.R_drewN | apply Kd.R_drew)); exact HO_9.out) (Kd.R_base ho0) hb); have n2_ := Aside0.mk (Kd.R_elder' (by (with_reducible repeat (first | apply Kd.R_alloc | apply Kd.R_drewN | apply Kd.R_drew)); exact HO_46.out) (Kd.R_base ho0) hb); have n3_ := Aside0.mk (Kd.R_lower (Kd.R_new' (Kd.R_new' (Kd.R_new' ho0 (Kd.R_lt (by (with_reducible repeat (first | apply Kd.R_alloc | apply Kd.R_drewN | apply Kd.R_drew)); exact HO_6.out))) (Kd.R_lt (by (with_reducible repeat (first | apply Kd.R_alloc | apply Kd.R_drewN | apply Kd.R_drew)); exact HO_9.out))) (Kd.R_lt (by (with_reducible repeat (first | apply Kd.R_alloc | apply Kd.R_drewN | apply Kd.R_drew)); exact HO_46.out))) (below_size (by repeat (first | (with_reducible first | exact HB.out | apply below_alloc | apply pw_below_drewN | apply below_drew1) | exact HB.out)))); have n4_ := Aside0.mk (below_step (by repeat (first | (with_reducible first | exact HB.out | apply below_alloc | apply pw_below_drewN | apply below_drew1) | exact HB.out)) hb); clear HO_6; clear HO_9; clear HO_46; clear HB; have HO_6 := n0_; have HO_9 := n1_; have HO_46 := n2_; have HO344 := n3_; have HB := n4_; clear n0_ n1_ n2_ n3_ n4_; (try clear hb); (try clear hb2); (try clear hk); (try clear hi); (try clear ho0); obtain ⟨Ao34, co34, eo34⟩ := Kd.R_slice HO344.out; subst eo34)))
                                  go_wp2
                                  repeat (go_quiet (fail); try go_wp2)
                                  go_loopg [75] kj23 (fun kq v75 w' => ∃ (x75_5 : Int), v75 = .int .i64 x75_5 ∧ Aside0 (antecedentlaw12_CompsReach.l2 kq l1 (Int.tmod (wrap64 (a0)) 40) t332 x34_2 t335 (Int.tmod (wrap64 (a0)) 40) x34_2 t335 (t335.length : Int) x48_3 t342 (t342.length : Int) x75_5 = some r) ∧ Aside0 (kq ≤ kj23) ∧ Aside0 (Kd.R (Kd.int .i64) 3 w' w.heap.size (fun k_ => some k_ ≠ ((.slice (some ad339) t335.length co20) : Value).ownBlock ∧ some k_ ≠ ((.slice (some ad339) t335.length co20) : Value).ownBlock ∧ some k_ ≠ ((.slice Ao34 t342.length co34) : Value).ownBlock) (.slice Ao14 t332.length co14) t332) ∧ Aside0 (Kd.R (Kd.int .i64) 3 w' w.heap.size (fun k_ => some k_ ≠ ((.slice Ao14 t332.length co14) : Value).ownBlock ∧ some k_ ≠ ((.slice Ao34 t342.length co34) : Value).ownBlock) (.slice (some ad339) t335.length co20) t335) ∧ Aside0 (Kd.R (Kd.int .i64) 3 w' w.heap.size (fun k_ => some k_ ≠ ((.slice Ao14 t332.length co14) : Value).ownBlock ∧ some k_ ≠ ((.slice Ao34 t342.length co34) : Value).ownBlock) (.slice (some ad339) t335.length co20) t335) ∧ Aside0 (Kd.R (Kd.int .i64) 3 w' w.heap.size (fun k_ => some k_ ≠ ((.slice Ao14 t332.length co14) : Value).ownBlock ∧ some k_ ≠ ((.slice (some ad339) t335.length co20) : Value).ownBlock ∧ some k_ ≠ ((.slice (some ad339) t335.length co20) : Value).ownBlock) (.slice Ao34 t342.length co34) t342) ∧ Aside0 (Below w.heap.size w w'))
                                  case atStart => exact ⟨(0), (by first | rfl | (simp; done) | (simp [*]; done)), H', ⟨Nat.le_refl _⟩, ⟨by (with_reducible repeat (first | apply Kd.R_alloc | apply Kd.R_drewN | apply Kd.R_drew)); exact Kd.R_mono HO_6.out (fun _ hk => ⟨hk.1.1, ⟨hk.1.2, hk.2⟩⟩)⟩, ⟨by (with_reducible repeat (first | apply Kd.R_alloc | apply Kd.R_drewN | apply Kd.R_drew)); exact HO_9.out⟩, ⟨by (with_reducible repeat (first | apply Kd.R_alloc | apply Kd.R_drewN | apply Kd.R_drew)); exact HO_46.out⟩, ⟨by (with_reducible repeat (first | apply Kd.R_alloc | apply Kd.R_drewN | apply Kd.R_drew)); exact Kd.R_mono HO344.out (fun _ hk => ⟨hk.1.1.2, ⟨hk.1.2, hk.2⟩⟩)⟩, ⟨by repeat (first | (with_reducible first | exact HB.out | apply below_alloc | apply pw_below_drewN | apply below_drew1) | exact HB.out)⟩⟩
                                  case round =>
                                    clear H'
                                    try clear c1
                                    try clear c2
                                    try clear p2
                                    try clear c3
                                    try clear p3
                                    try clear q3
                                    try clear hx3
                                    try clear c5
                                    try clear p6
                                    try clear c8
                                    try clear c12
                                    try clear c12b0
                                    try clear c12b1
                                    try clear c15
                                    try clear c15b0
                                    try clear c18
                                    try clear c21
                                    try clear c21b0
                                    try clear c22
                                    try clear c22b0
                                    try clear c23
                                    try clear c23b0
                                    try clear c25
                                    try clear c25b0
                                    try clear c26
                                    try clear c26b0
                                    try clear c27
                                    try clear c27b0
                                    try clear c28
                                    try clear c28b0
                                    try clear c29
                                    try clear c29b0
                                    try clear c30
                                    try clear c30b0
                                    try clear c31
                                    try clear p33
                                    try clear q33
                                    try clear hx33
                                    try clear p34
                                    try clear q34
                                    try clear hx34
                                    try clear hx339_0
                                    try clear hx340_0
                                    try clear hx341_0
                                    try clear p2
                                    try clear p3
                                    try clear p339
                                    try clear p340
                                    try clear p341
                                    try clear p6
                                    try clear q3
                                    try clear q339
                                    try clear q340
                                    try clear q341
                                    obtain ⟨x75_5, rfl, HA, HK5, HO_6, HO_9, HO_46, HO_73, HB⟩ := hrel
                                    cases gk with
                                    | zero => exact absurd HA.out (by simp [antecedentlaw12_CompsReach.l2])
                                    | succ k5 =>
                                      have H := HA.out
                                      clear HA
                                      simp only [antecedentlaw12_CompsReach.l2] at H
                                      by_cases c35 : x75_5 < (t342.length : Int)
                                      · rw [if_pos c35] at H
                                        have c35b0 : decide (x75_5 < (t342.length : Int)) = true := decide_eq_true c35
                                        clear c35
                                        by_cases c36 : 0 ≤ x75_5
                                        · rw [if_pos c36] at H
                                          have c36b0 : decide (0 ≤ x75_5) = true := decide_eq_true c36
                                          clear c36
                                          by_cases c37 : x75_5 < (t342.length : Int)
                                          · rw [if_pos c37] at H
                                            have c37b0 : decide (x75_5 < (t342.length : Int)) = true := decide_eq_true c37
                                            clear c37
                                            replace H := Option.bind_eq_some_iff.mp H
                                            obtain ⟨t346, A380, H⟩ := H
                                            replace H : (if t346 = true then (antecedentlaw12_CompsReach.l2 k5 l1 (Int.tmod (wrap64 (a0)) 40) t332 x34_2 t335 (Int.tmod (wrap64 (a0)) 40) x34_2 t335 (t335.length : Int) x48_3 t342 (t342.length : Int) (wrap64 (x75_5 + 1))) else (some false)) = some r := H
                                            have A38 := Aside0.mk A380
                                            clear A380
                                            by_cases c39 : t346 = true
                                            · subst c39
                                              have H1 : (antecedentlaw12_CompsReach.l2 k5 l1 (Int.tmod (wrap64 (a0)) 40) t332 x34_2 t335 (Int.tmod (wrap64 (a0)) 40) x34_2 t335 (t335.length : Int) x48_3 t342 (t342.length : Int) (wrap64 (x75_5 + 1))) = some r := by rw [if_pos rfl] at H; exact H
                                              clear H
                                              have H := H1
                                              clear H1
                                              have H' := Aside0.mk H
                                              clear H
                                              have p345 : 0 ≤ (x75_5 : Int) := of_decide_eq_true (by first | (with_reducible assumption) | assumption)
                                              have q345 : x75_5 < (t342.length : Int) := of_decide_eq_true (by first | (with_reducible assumption) | assumption)
                                              obtain ⟨ad345, e345, hx345_0⟩ := Kd.at_int (Kd.R_reads' HO_73.out).2.2 x75_5 p345 q345
                                              cases e345
                                              replace p345 := eq_true p345
                                              replace q345 := eq_true q345
                                              go_wp2_with (first | (go_at_call 16; (with_reducible refine (antecedentlaw12_CompsReach_1.calls k5 _ _ t335 (rd t342 x75_5) true _ ?side1 ?side2 A38.out).mono ?_); (case side1 => repeat (first | exact (Kd.R_reads' HO_9.out).2.2 | (with_reducible refine Kd.C_alloc ?_ _) | (with_reducible refine Kd.C_drewN ?_ _) | (with_reducible refine Kd.C_drew ?_))); (case side2 => exact (Kd.R_reads' HO_9.out).2.1); rintro e w' ⟨rfl, ⟨nd, rfl⟩⟩; (try first | exact ⟨rfl, _, World.drewN_drewN _ _ _⟩ | exact ⟨rfl, _, Eq.trans (World.drewN_drewN _ _ _) (congrArg (World.drewN _) (Nat.add_assoc _ _ _))⟩)))
                                              repeat (go_quiet (first | (go_at_call 16; (with_reducible refine (antecedentlaw12_CompsReach_1.calls k5 _ _ t335 (rd t342 x75_5) true _ ?side1 ?side2 A38.out).mono ?_); (case side1 => repeat (first | exact (Kd.R_reads' HO_9.out).2.2 | (with_reducible refine Kd.C_alloc ?_ _) | (with_reducible refine Kd.C_drewN ?_ _) | (with_reducible refine Kd.C_drew ?_))); (case side2 => exact (Kd.R_reads' HO_9.out).2.1); rintro e w' ⟨rfl, ⟨nd, rfl⟩⟩; (try first | exact ⟨rfl, _, World.drewN_drewN _ _ _⟩ | exact ⟨rfl, _, Eq.trans (World.drewN_drewN _ _ _) (congrArg (World.drewN _) (Nat.add_assoc _ _ _))⟩))); try go_wp2_with (first | (go_at_call 16; (with_reducible refine (antecedentlaw12_CompsReach_1.calls k5 _ _ t335 (rd t342 x75_5) true _ ?side1 ?side2 A38.out).mono ?_); (case side1 => repeat (first | exact (Kd.R_reads' HO_9.out).2.2 | (with_reducible refine Kd.C_alloc ?_ _) | (with_reducible refine Kd.C_drewN ?_ _) | (with_reducible refine Kd.C_drew ?_))); (case side2 => exact (Kd.R_reads' HO_9.out).2.1); rintro e w' ⟨rfl, ⟨nd, rfl⟩⟩; (try first | exact ⟨rfl, _, World.drewN_drewN _ _ _⟩ | exact ⟨rfl, _, Eq.trans (World.drewN_drewN _ _ _) (congrArg (World.drewN _) (Nat.add_assoc _ _ _))⟩))))
                                              go_wp2
                                              repeat (go_quiet (fail); try go_wp2)
                                              go_roundg k5
                                              case measure => have := HJ2.out; have := HK2.out; have := HK3.out; have := HJ23.out; have := HK5.out; omega
                                              case rel => exact ⟨(wrap64 (x75_5 + 1)), (by first | rfl | (simp; done) | (simp [*]; done)), H', ⟨by have := HJ2.out; have := HK2.out; have := HK3.out; have := HJ23.out; have := HK5.out; omega⟩, ⟨by (with_reducible repeat (first | apply Kd.R_alloc | apply Kd.R_drewN | apply Kd.R_drew)); exact HO_6.out⟩, ⟨by (with_reducible repeat (first | apply Kd.R_alloc | apply Kd.R_drewN | apply Kd.R_drew)); exact HO_9.out⟩, ⟨by (with_reducible repeat (first | apply Kd.R_alloc | apply Kd.R_drewN | apply Kd.R_drew)); exact HO_46.out⟩, ⟨by (with_reducible repeat (first | apply Kd.R_alloc | apply Kd.R_drewN | apply Kd.R_drew)); exact HO_73.out⟩, ⟨by repeat (first | (with_reducible first | exact HB.out | apply below_alloc | apply pw_below_drewN | apply below_drew1) | exact HB.out)⟩⟩
                                            · replace c39 := Bool.eq_false_iff.mpr c39
                                              subst c39
                                              have H1 : (some false) = some r := by rw [if_neg (show ¬ (false = true) by decide)] at H; exact H
                                              clear H
                                              have H := H1
                                              clear H1
                                              obtain rfl := Option.some.inj H
                                              have p345 : 0 ≤ (x75_5 : Int) := of_decide_eq_true (by first | (with_reducible assumption) | assumption)
                                              have q345 : x75_5 < (t342.length : Int) := of_decide_eq_true (by first | (with_reducible assumption) | assumption)
                                              obtain ⟨ad345, e345, hx345_0⟩ := Kd.at_int (Kd.R_reads' HO_73.out).2.2 x75_5 p345 q345
                                              cases e345
                                              replace p345 := eq_true p345
                                              replace q345 := eq_true q345
                                              go_wp2_with (first | (go_at_call 16; (with_reducible refine (antecedentlaw12_CompsReach_1.calls k5 _ _ t335 (rd t342 x75_5) false _ ?side1 ?side2 A38.out).mono ?_); (case side1 => repeat (first | exact (Kd.R_reads' HO_9.out).2.2 | (with_reducible refine Kd.C_alloc ?_ _) | (with_reducible refine Kd.C_drewN ?_ _) | (with_reducible refine Kd.C_drew ?_))); (case side2 => exact (Kd.R_reads' HO_9.out).2.1); rintro e w' ⟨rfl, ⟨nd, rfl⟩⟩; (try first | exact ⟨rfl, _, World.drewN_drewN _ _ _⟩ | exact ⟨rfl, _, Eq.trans (World.drewN_drewN _ _ _) (congrArg (World.drewN _) (Nat.add_assoc _ _ _))⟩)))
                                              repeat (go_quiet (first | (go_at_call 16; (with_reducible refine (antecedentlaw12_CompsReach_1.calls k5 _ _ t335 (rd t342 x75_5) false _ ?side1 ?side2 A38.out).mono ?_); (case side1 => repeat (first | exact (Kd.R_reads' HO_9.out).2.2 | (with_reducible refine Kd.C_alloc ?_ _) | (with_reducible refine Kd.C_drewN ?_ _) | (with_reducible refine Kd.C_drew ?_))); (case side2 => exact (Kd.R_reads' HO_9.out).2.1); rintro e w' ⟨rfl, ⟨nd, rfl⟩⟩; (try first | exact ⟨rfl, _, World.drewN_drewN _ _ _⟩ | exact ⟨rfl, _, Eq.trans (World.drewN_drewN _ _ _) (congrArg (World.drewN _) (Nat.add_assoc _ _ _))⟩))); try go_wp2_with (first | (go_at_call 16; (with_reducible refine (antecedentlaw12_CompsReach_1.calls k5 _ _ t335 (rd t342 x75_5) false _ ?side1 ?side2 A38.out).mono ?_); (case side1 => repeat (first | exact (Kd.R_reads' HO_9.out).2.2 | (with_reducible refine Kd.C_alloc ?_ _) | (with_reducible refine Kd.C_drewN ?_ _) | (with_reducible refine Kd.C_drew ?_))); (case side2 => exact (Kd.R_reads' HO_9.out).2.1); rintro e w' ⟨rfl, ⟨nd, rfl⟩⟩; (try first | exact ⟨rfl, _, World.drewN_drewN _ _ _⟩ | exact ⟨rfl, _, Eq.trans (World.drewN_drewN _ _ _) (congrArg (World.drewN _) (Nat.add_assoc _ _ _))⟩))))
                                              go_wp2
                                              repeat (go_quiet (fail); try go_wp2)
                                              go_ret
                                              exact ⟨by first | rfl | (simp [errW_none, errW_some] <;> rfl) | (simp [*, errW_none, errW_some] <;> rfl), by repeat (first | (with_reducible first | exact HB.out | apply below_alloc | apply pw_below_drewN | apply below_drew1) | exact HB.out)⟩
                                          · rw [if_neg c37] at H
                                            exact absurd H (by simp)
                                        · rw [if_neg c36] at H
                                          exact absurd H (by simp)
                                      · rw [if_neg c35] at H
                                        have c35b0 : decide (x75_5 < (t342.length : Int)) = false := decide_eq_false c35
                                        clear c35
                                        have H' := Aside0.mk H
                                        clear H
                                        go_wp2
                                        repeat (go_quiet (fail); try go_wp2)
                                        go_roundg k5
                                        case measure => have := HJ2.out; have := HK2.out; have := HK3.out; have := HJ23.out; have := HK5.out; omega
                                        case rel => exact ⟨(wrap64 (x48_3 + 1)), (by first | rfl | (simp; done) | (simp [*]; done)), H', ⟨by have := HJ2.out; have := HK2.out; have := HK3.out; have := HJ23.out; have := HK5.out; omega⟩, ⟨by (with_reducible repeat (first | apply Kd.R_alloc | apply Kd.R_drewN | apply Kd.R_drew)); exact Kd.R_mono HO_6.out (fun _ hk => ⟨hk.1, hk.2.1⟩)⟩, ⟨by (with_reducible repeat (first | apply Kd.R_alloc | apply Kd.R_drewN | apply Kd.R_drew)); exact Kd.R_mono HO_9.out (fun _ hk => hk.1)⟩, ⟨by (with_reducible repeat (first | apply Kd.R_alloc | apply Kd.R_drewN | apply Kd.R_drew)); exact Kd.R_mono HO_46.out (fun _ hk => hk.1)⟩, ⟨by repeat (first | (with_reducible first | exact HB.out | apply below_alloc | apply pw_below_drewN | apply below_drew1) | exact HB.out)⟩⟩
                          · rw [if_neg c23] at H
                            exact absurd H (by simp)
                        · rw [if_neg c22] at H
                          exact absurd H (by simp)
                      · rw [if_neg c21] at H
                        have c21b0 : decide (x48_3 < (t335.length : Int)) = false := decide_eq_false c21
                        clear c21
                        have H' := Aside0.mk H
                        clear H
                        go_wp2
                        repeat (go_quiet (fail); try go_wp2)
                        go_loopg [88] k3 (fun kq v88 w' => ∃ (x88_4 : Int), v88 = .int .i64 x88_4 ∧ Aside0 (antecedentlaw12_CompsReach.l3 kq l1 (Int.tmod (wrap64 (a0)) 40) t332 x34_2 t335 (Int.tmod (wrap64 (a0)) 40) x34_2 (l1.length : Int) x88_4 = some r) ∧ Aside0 (kq ≤ k3) ∧ Aside0 (Kd.R (Kd.int .i64) 3 w' w.heap.size (fun k_ => some k_ ≠ ((.slice Ao20 t335.length co20) : Value).ownBlock) (.slice Ao14 t332.length co14) t332) ∧ Aside0 (Kd.R (Kd.int .i64) 3 w' w.heap.size (fun k_ => some k_ ≠ ((.slice Ao14 t332.length co14) : Value).ownBlock) (.slice Ao20 t335.length co20) t335) ∧ Aside0 (Below w.heap.size w w'))
                        case atStart => exact ⟨(0), (by first | rfl | (simp; done) | (simp [*]; done)), H', ⟨Nat.le_refl _⟩, ⟨by (with_reducible repeat (first | apply Kd.R_alloc | apply Kd.R_drewN | apply Kd.R_drew)); exact Kd.R_mono HO_6.out (fun _ hk => hk.1)⟩, ⟨by (with_reducible repeat (first | apply Kd.R_alloc | apply Kd.R_drewN | apply Kd.R_drew)); exact HO_9.out⟩, ⟨by repeat (first | (with_reducible first | exact HB.out | apply below_alloc | apply pw_below_drewN | apply below_drew1) | exact HB.out)⟩⟩
                        case round =>
                          clear H'
                          try clear c1
                          try clear c2
                          try clear p2
                          try clear c3
                          try clear p3
                          try clear q3
                          try clear hx3
                          try clear c5
                          try clear p6
                          try clear c8
                          try clear c12
                          try clear c12b0
                          try clear c12b1
                          try clear c15
                          try clear c15b0
                          try clear c18
                          try clear c21
                          try clear c21b0
                          try clear c22
                          try clear c22b0
                          try clear c23
                          try clear c23b0
                          try clear c25
                          try clear c25b0
                          try clear c26
                          try clear c26b0
                          try clear c27
                          try clear c27b0
                          try clear c28
                          try clear c28b0
                          try clear c29
                          try clear c29b0
                          try clear c30
                          try clear c30b0
                          try clear c31
                          try clear p33
                          try clear q33
                          try clear hx33
                          try clear p34
                          try clear q34
                          try clear hx34
                          try clear c35
                          try clear c35b0
                          try clear c36
                          try clear c36b0
                          try clear c37
                          try clear c37b0
                          try clear c39
                          try clear hx339_0
                          try clear hx340_0
                          try clear hx341_0
                          try clear hx345_0
                          try clear p2
                          try clear p3
                          try clear p33
                          try clear p339
                          try clear p34
                          try clear p340
                          try clear p341
                          try clear p345
                          try clear p6
                          try clear q3
                          try clear q33
                          try clear q339
                          try clear q34
                          try clear q340
                          try clear q341
                          try clear q345
                          obtain ⟨x88_4, rfl, HA, HK4, HO_6, HO_9, HB⟩ := hrel
                          cases gk with
                          | zero => exact absurd HA.out (by simp [antecedentlaw12_CompsReach.l3])
                          | succ k4 =>
                            have H := HA.out
                            clear HA
                            simp only [antecedentlaw12_CompsReach.l3] at H
                            by_cases c40 : x88_4 < (l1.length : Int)
                            · rw [if_pos c40] at H
                              have c40b0 : decide (x88_4 < (l1.length : Int)) = true := decide_eq_true c40
                              clear c40
                              by_cases c41 : 0 ≤ x88_4
                              · rw [if_pos c41] at H
                                have c41b0 : decide (0 ≤ x88_4) = true := decide_eq_true c41
                                clear c41
                                by_cases c42 : x88_4 < (l1.length : Int)
                                · rw [if_pos c42] at H
                                  have c42b0 : decide (x88_4 < (l1.length : Int)) = true := decide_eq_true c42
                                  clear c42
                                  by_cases c43 : ((rd_T31 l1 x88_4).f0) = x34_2
                                  · rw [if_pos c43] at H
                                    have c43b0 : (((rd_T31 l1 x88_4).f0) == x34_2) = true := beq_iff_eq.mpr c43
                                    have c43b1 : (((rd_T31 l1 x88_4).f0) != x34_2) = false := bne_eq_false_iff_eq.mpr c43
                                    clear c43
                                    by_cases c44 : ((rd_T31 l1 x88_4).f1) ≥ 0
                                    · rw [if_pos c44] at H
                                      have c44b0 : decide (0 ≤ ((rd_T31 l1 x88_4).f1)) = true := decide_eq_true c44
                                      clear c44
                                      by_cases c45 : ((rd_T31 l1 x88_4).f1) < (Int.tmod (wrap64 (a0)) 40)
                                      · rw [if_pos c45] at H
                                        have c45b0 : decide (((rd_T31 l1 x88_4).f1) < (Int.tmod (wrap64 (a0)) 40)) = true := decide_eq_true c45
                                        clear c45
                                        replace H := Option.bind_eq_some_iff.mp H
                                        obtain ⟨t351, A460, H⟩ := H
                                        replace H : (if t351 = true then (antecedentlaw12_CompsReach.l3 k4 l1 (Int.tmod (wrap64 (a0)) 40) t332 x34_2 t335 (Int.tmod (wrap64 (a0)) 40) x34_2 (l1.length : Int) (wrap64 (x88_4 + 1))) else (some false)) = some r := H
                                        have A46 := Aside0.mk A460
                                        clear A460
                                        by_cases c47 : t351 = true
                                        · subst c47
                                          have H1 : (antecedentlaw12_CompsReach.l3 k4 l1 (Int.tmod (wrap64 (a0)) 40) t332 x34_2 t335 (Int.tmod (wrap64 (a0)) 40) x34_2 (l1.length : Int) (wrap64 (x88_4 + 1))) = some r := by rw [if_pos rfl] at H; exact H
                                          clear H
                                          have H := H1
                                          clear H1
                                          have H' := Aside0.mk H
                                          clear H
                                          have p347 : 0 ≤ (x88_4 : Int) := of_decide_eq_true (by first | (with_reducible assumption) | assumption)
                                          have q347 : x88_4 < (l1.length : Int) := of_decide_eq_true (by first | (with_reducible assumption) | assumption)
                                          obtain ⟨ad347, e347, hx347_0, hx347_1⟩ := at_T31 HR1.out x88_4 p347 q347
                                          cases e347
                                          replace hx347_0 := (HB.out.cell (World.block_lt_of_cell? w _ hx347_0)).trans hx347_0
                                          replace hx347_1 := (HB.out.cell (World.block_lt_of_cell? w _ hx347_1)).trans hx347_1
                                          replace p347 := eq_true p347
                                          replace q347 := eq_true q347
                                          have p348 : 0 ≤ (x88_4 : Int) := of_decide_eq_true (by first | (with_reducible assumption) | assumption)
                                          have q348 : x88_4 < (l1.length : Int) := of_decide_eq_true (by first | (with_reducible assumption) | assumption)
                                          obtain ⟨ad348, e348, hx348_0, hx348_1⟩ := at_T31 HR1.out x88_4 p348 q348
                                          obtain rfl : ad347 = ad348 := (by injection e348)
                                          replace hx348_0 := (HB.out.cell (World.block_lt_of_cell? w _ hx348_0)).trans hx348_0
                                          replace hx348_1 := (HB.out.cell (World.block_lt_of_cell? w _ hx348_1)).trans hx348_1
                                          replace p348 := eq_true p348
                                          replace q348 := eq_true q348
                                          have p349 : 0 ≤ (x88_4 : Int) := of_decide_eq_true (by first | (with_reducible assumption) | assumption)
                                          have q349 : x88_4 < (l1.length : Int) := of_decide_eq_true (by first | (with_reducible assumption) | assumption)
                                          obtain ⟨ad349, e349, hx349_0, hx349_1⟩ := at_T31 HR1.out x88_4 p349 q349
                                          obtain rfl : ad347 = ad349 := (by injection e349)
                                          replace hx349_0 := (HB.out.cell (World.block_lt_of_cell? w _ hx349_0)).trans hx349_0
                                          replace hx349_1 := (HB.out.cell (World.block_lt_of_cell? w _ hx349_1)).trans hx349_1
                                          replace p349 := eq_true p349
                                          replace q349 := eq_true q349
                                          have p350 : 0 ≤ (x88_4 : Int) := of_decide_eq_true (by first | (with_reducible assumption) | assumption)
                                          have q350 : x88_4 < (l1.length : Int) := of_decide_eq_true (by first | (with_reducible assumption) | assumption)
                                          obtain ⟨ad350, e350, hx350_0, hx350_1⟩ := at_T31 HR1.out x88_4 p350 q350
                                          obtain rfl : ad347 = ad350 := (by injection e350)
                                          replace hx350_0 := (HB.out.cell (World.block_lt_of_cell? w _ hx350_0)).trans hx350_0
                                          replace hx350_1 := (HB.out.cell (World.block_lt_of_cell? w _ hx350_1)).trans hx350_1
                                          replace p350 := eq_true p350
                                          replace q350 := eq_true q350
                                          go_wp2_with (first | (go_at_call 16; (with_reducible refine (antecedentlaw12_CompsReach_1.calls k4 _ _ t335 ((rd_T31 l1 x88_4).f1) true _ ?side1 ?side2 A46.out).mono ?_); (case side1 => repeat (first | exact (Kd.R_reads' HO_9.out).2.2 | (with_reducible refine Kd.C_alloc ?_ _) | (with_reducible refine Kd.C_drewN ?_ _) | (with_reducible refine Kd.C_drew ?_))); (case side2 => exact (Kd.R_reads' HO_9.out).2.1); rintro e w' ⟨rfl, ⟨nd, rfl⟩⟩; (try first | exact ⟨rfl, _, World.drewN_drewN _ _ _⟩ | exact ⟨rfl, _, Eq.trans (World.drewN_drewN _ _ _) (congrArg (World.drewN _) (Nat.add_assoc _ _ _))⟩)))
                                          repeat (go_quiet (first | (go_at_call 16; (with_reducible refine (antecedentlaw12_CompsReach_1.calls k4 _ _ t335 ((rd_T31 l1 x88_4).f1) true _ ?side1 ?side2 A46.out).mono ?_); (case side1 => repeat (first | exact (Kd.R_reads' HO_9.out).2.2 | (with_reducible refine Kd.C_alloc ?_ _) | (with_reducible refine Kd.C_drewN ?_ _) | (with_reducible refine Kd.C_drew ?_))); (case side2 => exact (Kd.R_reads' HO_9.out).2.1); rintro e w' ⟨rfl, ⟨nd, rfl⟩⟩; (try first | exact ⟨rfl, _, World.drewN_drewN _ _ _⟩ | exact ⟨rfl, _, Eq.trans (World.drewN_drewN _ _ _) (congrArg (World.drewN _) (Nat.add_assoc _ _ _))⟩))); try go_wp2_with (first | (go_at_call 16; (with_reducible refine (antecedentlaw12_CompsReach_1.calls k4 _ _ t335 ((rd_T31 l1 x88_4).f1) true _ ?side1 ?side2 A46.out).mono ?_); (case side1 => repeat (first | exact (Kd.R_reads' HO_9.out).2.2 | (with_reducible refine Kd.C_alloc ?_ _) | (with_reducible refine Kd.C_drewN ?_ _) | (with_reducible refine Kd.C_drew ?_))); (case side2 => exact (Kd.R_reads' HO_9.out).2.1); rintro e w' ⟨rfl, ⟨nd, rfl⟩⟩; (try first | exact ⟨rfl, _, World.drewN_drewN _ _ _⟩ | exact ⟨rfl, _, Eq.trans (World.drewN_drewN _ _ _) (congrArg (World.drewN _) (Nat.add_assoc _ _ _))⟩))))
                                          go_wp2
                                          repeat (go_quiet (fail); try go_wp2)
                                          go_roundg k4
                                          case measure => have := HJ2.out; have := HK2.out; have := HK3.out; have := HK4.out; omega
                                          case rel => exact ⟨(wrap64 (x88_4 + 1)), (by first | rfl | (simp; done) | (simp [*]; done)), H', ⟨by have := HJ2.out; have := HK2.out; have := HK3.out; have := HK4.out; omega⟩, ⟨by (with_reducible repeat (first | apply Kd.R_alloc | apply Kd.R_drewN | apply Kd.R_drew)); exact HO_6.out⟩, ⟨by (with_reducible repeat (first | apply Kd.R_alloc | apply Kd.R_drewN | apply Kd.R_drew)); exact HO_9.out⟩, ⟨by repeat (first | (with_reducible first | exact HB.out | apply below_alloc | apply pw_below_drewN | apply below_drew1) | exact HB.out)⟩⟩
                                        · replace c47 := Bool.eq_false_iff.mpr c47
                                          subst c47
                                          have H1 : (some false) = some r := by rw [if_neg (show ¬ (false = true) by decide)] at H; exact H
                                          clear H
                                          have H := H1
                                          clear H1
                                          obtain rfl := Option.some.inj H
                                          have p347 : 0 ≤ (x88_4 : Int) := of_decide_eq_true (by first | (with_reducible assumption) | assumption)
                                          have q347 : x88_4 < (l1.length : Int) := of_decide_eq_true (by first | (with_reducible assumption) | assumption)
                                          obtain ⟨ad347, e347, hx347_0, hx347_1⟩ := at_T31 HR1.out x88_4 p347 q347
                                          cases e347
                                          replace hx347_0 := (HB.out.cell (World.block_lt_of_cell? w _ hx347_0)).trans hx347_0
                                          replace hx347_1 := (HB.out.cell (World.block_lt_of_cell? w _ hx347_1)).trans hx347_1
                                          replace p347 := eq_true p347
                                          replace q347 := eq_true q347
                                          have p348 : 0 ≤ (x88_4 : Int) := of_decide_eq_true (by first | (with_reducible assumption) | assumption)
                                          have q348 : x88_4 < (l1.length : Int) := of_decide_eq_true (by first | (with_reducible assumption) | assumption)
                                          obtain ⟨ad348, e348, hx348_0, hx348_1⟩ := at_T31 HR1.out x88_4 p348 q348
                                          obtain rfl : ad347 = ad348 := (by injection e348)
                                          replace hx348_0 := (HB.out.cell (World.block_lt_of_cell? w _ hx348_0)).trans hx348_0
                                          replace hx348_1 := (HB.out.cell (World.block_lt_of_cell? w _ hx348_1)).trans hx348_1
                                          replace p348 := eq_true p348
                                          replace q348 := eq_true q348
                                          have p349 : 0 ≤ (x88_4 : Int) := of_decide_eq_true (by first | (with_reducible assumption) | assumption)
                                          have q349 : x88_4 < (l1.length : Int) := of_decide_eq_true (by first | (with_reducible assumption) | assumption)
                                          obtain ⟨ad349, e349, hx349_0, hx349_1⟩ := at_T31 HR1.out x88_4 p349 q349
                                          obtain rfl : ad347 = ad349 := (by injection e349)
                                          replace hx349_0 := (HB.out.cell (World.block_lt_of_cell? w _ hx349_0)).trans hx349_0
                                          replace hx349_1 := (HB.out.cell (World.block_lt_of_cell? w _ hx349_1)).trans hx349_1
                                          replace p349 := eq_true p349
                                          replace q349 := eq_true q349
                                          have p350 : 0 ≤ (x88_4 : Int) := of_decide_eq_true (by first | (with_reducible assumption) | assumption)
                                          have q350 : x88_4 < (l1.length : Int) := of_decide_eq_true (by first | (with_reducible assumption) | assumption)
                                          obtain ⟨ad350, e350, hx350_0, hx350_1⟩ := at_T31 HR1.out x88_4 p350 q350
                                          obtain rfl : ad347 = ad350 := (by injection e350)
                                          replace hx350_0 := (HB.out.cell (World.block_lt_of_cell? w _ hx350_0)).trans hx350_0
                                          replace hx350_1 := (HB.out.cell (World.block_lt_of_cell? w _ hx350_1)).trans hx350_1
                                          replace p350 := eq_true p350
                                          replace q350 := eq_true q350
                                          go_wp2_with (first | (go_at_call 16; (with_reducible refine (antecedentlaw12_CompsReach_1.calls k4 _ _ t335 ((rd_T31 l1 x88_4).f1) false _ ?side1 ?side2 A46.out).mono ?_); (case side1 => repeat (first | exact (Kd.R_reads' HO_9.out).2.2 | (with_reducible refine Kd.C_alloc ?_ _) | (with_reducible refine Kd.C_drewN ?_ _) | (with_reducible refine Kd.C_drew ?_))); (case side2 => exact (Kd.R_reads' HO_9.out).2.1); rintro e w' ⟨rfl, ⟨nd, rfl⟩⟩; (try first | exact ⟨rfl, _, World.drewN_drewN _ _ _⟩ | exact ⟨rfl, _, Eq.trans (World.drewN_drewN _ _ _) (congrArg (World.drewN _) (Nat.add_assoc _ _ _))⟩)))
                                          repeat (go_quiet (first | (go_at_call 16; (with_reducible refine (antecedentlaw12_CompsReach_1.calls k4 _ _ t335 ((rd_T31 l1 x88_4).f1) false _ ?side1 ?side2 A46.out).mono ?_); (case side1 => repeat (first | exact (Kd.R_reads' HO_9.out).2.2 | (with_reducible refine Kd.C_alloc ?_ _) | (with_reducible refine Kd.C_drewN ?_ _) | (with_reducible refine Kd.C_drew ?_))); (case side2 => exact (Kd.R_reads' HO_9.out).2.1); rintro e w' ⟨rfl, ⟨nd, rfl⟩⟩; (try first | exact ⟨rfl, _, World.drewN_drewN _ _ _⟩ | exact ⟨rfl, _, Eq.trans (World.drewN_drewN _ _ _) (congrArg (World.drewN _) (Nat.add_assoc _ _ _))⟩))); try go_wp2_with (first | (go_at_call 16; (with_reducible refine (antecedentlaw12_CompsReach_1.calls k4 _ _ t335 ((rd_T31 l1 x88_4).f1) false _ ?side1 ?side2 A46.out).mono ?_); (case side1 => repeat (first | exact (Kd.R_reads' HO_9.out).2.2 | (with_reducible refine Kd.C_alloc ?_ _) | (with_reducible refine Kd.C_drewN ?_ _) | (with_reducible refine Kd.C_drew ?_))); (case side2 => exact (Kd.R_reads' HO_9.out).2.1); rintro e w' ⟨rfl, ⟨nd, rfl⟩⟩; (try first | exact ⟨rfl, _, World.drewN_drewN _ _ _⟩ | exact ⟨rfl, _, Eq.trans (World.drewN_drewN _ _ _) (congrArg (World.drewN _) (Nat.add_assoc _ _ _))⟩))))
                                          go_wp2
                                          repeat (go_quiet (fail); try go_wp2)
                                          go_ret
                                          exact ⟨by first | rfl | (simp [errW_none, errW_some] <;> rfl) | (simp [*, errW_none, errW_some] <;> rfl), by repeat (first | (with_reducible first | exact HB.out | apply below_alloc | apply pw_below_drewN | apply below_drew1) | exact HB.out)⟩
                                      · rw [if_neg c45] at H
                                        have c45b0 : decide (((rd_T31 l1 x88_4).f1) < (Int.tmod (wrap64 (a0)) 40)) = false := decide_eq_false c45
                                        clear c45
                                        have H' := Aside0.mk H
                                        clear H
                                        have p347 : 0 ≤ (x88_4 : Int) := of_decide_eq_true (by first | (with_reducible assumption) | assumption)
                                        have q347 : x88_4 < (l1.length : Int) := of_decide_eq_true (by first | (with_reducible assumption) | assumption)
                                        obtain ⟨ad347, e347, hx347_0, hx347_1⟩ := at_T31 HR1.out x88_4 p347 q347
                                        cases e347
                                        replace hx347_0 := (HB.out.cell (World.block_lt_of_cell? w _ hx347_0)).trans hx347_0
                                        replace hx347_1 := (HB.out.cell (World.block_lt_of_cell? w _ hx347_1)).trans hx347_1
                                        replace p347 := eq_true p347
                                        replace q347 := eq_true q347
                                        have p348 : 0 ≤ (x88_4 : Int) := of_decide_eq_true (by first | (with_reducible assumption) | assumption)
                                        have q348 : x88_4 < (l1.length : Int) := of_decide_eq_true (by first | (with_reducible assumption) | assumption)
                                        obtain ⟨ad348, e348, hx348_0, hx348_1⟩ := at_T31 HR1.out x88_4 p348 q348
                                        obtain rfl : ad347 = ad348 := (by injection e348)
                                        replace hx348_0 := (HB.out.cell (World.block_lt_of_cell? w _ hx348_0)).trans hx348_0
                                        replace hx348_1 := (HB.out.cell (World.block_lt_of_cell? w _ hx348_1)).trans hx348_1
                                        replace p348 := eq_true p348
                                        replace q348 := eq_true q348
                                        have p349 : 0 ≤ (x88_4 : Int) := of_decide_eq_true (by first | (with_reducible assumption) | assumption)
                                        have q349 : x88_4 < (l1.length : Int) := of_decide_eq_true (by first | (with_reducible assumption) | assumption)
                                        obtain ⟨ad349, e349, hx349_0, hx349_1⟩ := at_T31 HR1.out x88_4 p349 q349
                                        obtain rfl : ad347 = ad349 := (by injection e349)
                                        replace hx349_0 := (HB.out.cell (World.block_lt_of_cell? w _ hx349_0)).trans hx349_0
                                        replace hx349_1 := (HB.out.cell (World.block_lt_of_cell? w _ hx349_1)).trans hx349_1
                                        replace p349 := eq_true p349
                                        replace q349 := eq_true q349
                                        go_wp2
                                        repeat (go_quiet (fail); try go_wp2)
                                        go_roundg k4
                                        case measure => have := HJ2.out; have := HK2.out; have := HK3.out; have := HK4.out; omega
                                        case rel => exact ⟨(wrap64 (x88_4 + 1)), (by first | rfl | (simp; done) | (simp [*]; done)), H', ⟨by have := HJ2.out; have := HK2.out; have := HK3.out; have := HK4.out; omega⟩, ⟨by (with_reducible repeat (first | apply Kd.R_alloc | apply Kd.R_drewN | apply Kd.R_drew)); exact HO_6.out⟩, ⟨by (with_reducible repeat (first | apply Kd.R_alloc | apply Kd.R_drewN | apply Kd.R_drew)); exact HO_9.out⟩, ⟨by repeat (first | (with_reducible first | exact HB.out | apply below_alloc | apply pw_below_drewN | apply below_drew1) | exact HB.out)⟩⟩
                                    · rw [if_neg c44] at H
                                      have c44b0 : decide (0 ≤ ((rd_T31 l1 x88_4).f1)) = false := decide_eq_false c44
                                      clear c44
                                      have H' := Aside0.mk H
                                      clear H
                                      have p347 : 0 ≤ (x88_4 : Int) := of_decide_eq_true (by first | (with_reducible assumption) | assumption)
                                      have q347 : x88_4 < (l1.length : Int) := of_decide_eq_true (by first | (with_reducible assumption) | assumption)
                                      obtain ⟨ad347, e347, hx347_0, hx347_1⟩ := at_T31 HR1.out x88_4 p347 q347
                                      cases e347
                                      replace hx347_0 := (HB.out.cell (World.block_lt_of_cell? w _ hx347_0)).trans hx347_0
                                      replace hx347_1 := (HB.out.cell (World.block_lt_of_cell? w _ hx347_1)).trans hx347_1
                                      replace p347 := eq_true p347
                                      replace q347 := eq_true q347
                                      have p348 : 0 ≤ (x88_4 : Int) := of_decide_eq_true (by first | (with_reducible assumption) | assumption)
                                      have q348 : x88_4 < (l1.length : Int) := of_decide_eq_true (by first | (with_reducible assumption) | assumption)
                                      obtain ⟨ad348, e348, hx348_0, hx348_1⟩ := at_T31 HR1.out x88_4 p348 q348
                                      obtain rfl : ad347 = ad348 := (by injection e348)
                                      replace hx348_0 := (HB.out.cell (World.block_lt_of_cell? w _ hx348_0)).trans hx348_0
                                      replace hx348_1 := (HB.out.cell (World.block_lt_of_cell? w _ hx348_1)).trans hx348_1
                                      replace p348 := eq_true p348
                                      replace q348 := eq_true q348
                                      go_wp2
                                      repeat (go_quiet (fail); try go_wp2)
                                      go_roundg k4
                                      case measure => have := HJ2.out; have := HK2.out; have := HK3.out; have := HK4.out; omega
                                      case rel => exact ⟨(wrap64 (x88_4 + 1)), (by first | rfl | (simp; done) | (simp [*]; done)), H', ⟨by have := HJ2.out; have := HK2.out; have := HK3.out; have := HK4.out; omega⟩, ⟨by (with_reducible repeat (first | apply Kd.R_alloc | apply Kd.R_drewN | apply Kd.R_drew)); exact HO_6.out⟩, ⟨by (with_reducible repeat (first | apply Kd.R_alloc | apply Kd.R_drewN | apply Kd.R_drew)); exact HO_9.out⟩, ⟨by repeat (first | (with_reducible first | exact HB.out | apply below_alloc | apply pw_below_drewN | apply below_drew1) | exact HB.out)⟩⟩
                                  · rw [if_neg c43] at H
                                    have c43b0 : (((rd_T31 l1 x88_4).f0) == x34_2) = false := beq_eq_false_iff_ne.mpr c43
                                    have c43b1 : (((rd_T31 l1 x88_4).f0) != x34_2) = true := bne_iff_ne.mpr c43
                                    have H' := Aside0.mk H
                                    clear H
                                    have p347 : 0 ≤ (x88_4 : Int) := of_decide_eq_true (by first | (with_reducible assumption) | assumption)
                                    have q347 : x88_4 < (l1.length : Int) := of_decide_eq_true (by first | (with_reducible assumption) | assumption)
                                    obtain ⟨ad347, e347, hx347_0, hx347_1⟩ := at_T31 HR1.out x88_4 p347 q347
                                    cases e347
                                    replace hx347_0 := (HB.out.cell (World.block_lt_of_cell? w _ hx347_0)).trans hx347_0
                                    replace hx347_1 := (HB.out.cell (World.block_lt_of_cell? w _ hx347_1)).trans hx347_1
                                    replace p347 := eq_true p347
                                    replace q347 := eq_true q347
                                    go_wp2
                                    repeat (go_quiet (fail); try go_wp2)
                                    go_roundg k4
                                    case measure => have := HJ2.out; have := HK2.out; have := HK3.out; have := HK4.out; omega
                                    case rel => exact ⟨(wrap64 (x88_4 + 1)), (by first | rfl | (simp; done) | (simp [*]; done)), H', ⟨by have := HJ2.out; have := HK2.out; have := HK3.out; have := HK4.out; omega⟩, ⟨by (with_reducible repeat (first | apply Kd.R_alloc | apply Kd.R_drewN | apply Kd.R_drew)); exact HO_6.out⟩, ⟨by (with_reducible repeat (first | apply Kd.R_alloc | apply Kd.R_drewN | apply Kd.R_drew)); exact HO_9.out⟩, ⟨by repeat (first | (with_reducible first | exact HB.out | apply below_alloc | apply pw_below_drewN | apply below_drew1) | exact HB.out)⟩⟩
                                · rw [if_neg c42] at H
                                  exact absurd H (by simp)
                              · rw [if_neg c41] at H
                                exact absurd H (by simp)
                            · rw [if_neg c40] at H
                              have c40b0 : decide (x88_4 < (l1.length : Int)) = false := decide_eq_false c40
                              clear c40
                              have H' := Aside0.mk H
                              clear H
                              go_wp2
                              repeat (go_quiet (fail); try go_wp2)
                              go_roundg k4
                              case measure => have := HJ2.out; have := HK2.out; have := HK3.out; have := HK4.out; omega
                              case rel => exact ⟨(wrap64 (x34_2 + 1)), (by first | rfl | (simp; done) | (simp [*]; done)), H', ⟨by have := HJ2.out; have := HK2.out; have := HK3.out; have := HK4.out; omega⟩, ⟨by (with_reducible repeat (first | apply Kd.R_alloc | apply Kd.R_drewN | apply Kd.R_drew)); exact Kd.R_mono HO_6.out (fun _ hk => trivial)⟩, ⟨by repeat (first | (with_reducible first | exact HB.out | apply below_alloc | apply pw_below_drewN | apply below_drew1) | exact HB.out)⟩⟩
                · replace c18 := Bool.eq_false_iff.mpr c18
                  subst c18
                  have H1 : (some false) = some r := by rw [if_neg (show ¬ (false = true) by decide)] at H; exact H
                  clear H
                  have H := H1
                  clear H1
                  obtain rfl := Option.some.inj H
                  go_wp2_with (first | (go_at_call 14; (with_reducible refine (comps_Reach.calls k2 (Int.tmod (wrap64 (a0)) 40) _ _ l1 x34_2 t335 _ ?side1 ?side2 A16.out).mono ?_); (case side1 => repeat (first | exact (Kd.C_below HR1.out HB.out) | (with_reducible refine Kd.C_alloc ?_ _) | (with_reducible refine Kd.C_drewN ?_ _) | (with_reducible refine Kd.C_drew ?_))); (case side2 => exact HC1.out); rintro e w48 ⟨v336, rfl, ho0, hb⟩; have n0_ := Aside0.mk (Kd.R_elder' (by (with_reducible repeat (first | apply Kd.R_alloc | apply Kd.R_drewN | apply Kd.R_drew)); exact HO_6.out) (Kd.R_base ho0) hb); have n1_ := Aside0.mk (Kd.R_lower (Kd.R_new' ho0 (Kd.R_lt (by (with_reducible repeat (first | apply Kd.R_alloc | apply Kd.R_drewN | apply Kd.R_drew)); exact HO_6.out))) (below_size (by repeat (first | (with_reducible first | exact HB.out | apply below_alloc | apply pw_below_drewN | apply below_drew1) | exact HB.out)))); have n2_ := Aside0.mk (below_step (by repeat (first | (with_reducible first | exact HB.out | apply below_alloc | apply pw_below_drewN | apply below_drew1) | exact HB.out)) hb); clear HO_6; clear HB; have HO_6 := n0_; have HO337 := n1_; have HB := n2_; clear n0_ n1_ n2_; (try clear hb); (try clear hb2); (try clear hk); (try clear hi); (try clear ho0); obtain ⟨Ao49, co49, eo49⟩ := Kd.R_slice HO337.out; subst eo49) | (go_at_call 16; (with_reducible refine (antecedentlaw12_CompsReach_1.calls k2 _ _ t335 x34_2 false _ ?side1 ?side2 A17.out).mono ?_); (case side1 => repeat (first | exact (Kd.R_reads' HO337.out).2.2 | (with_reducible refine Kd.C_alloc ?_ _) | (with_reducible refine Kd.C_drewN ?_ _) | (with_reducible refine Kd.C_drew ?_))); (case side2 => exact (Kd.R_reads' HO337.out).2.1); rintro e w' ⟨rfl, ⟨nd, rfl⟩⟩; (try first | exact ⟨rfl, _, World.drewN_drewN _ _ _⟩ | exact ⟨rfl, _, Eq.trans (World.drewN_drewN _ _ _) (congrArg (World.drewN _) (Nat.add_assoc _ _ _))⟩)))
                  repeat (go_quiet (first | (go_at_call 14; (with_reducible refine (comps_Reach.calls k2 (Int.tmod (wrap64 (a0)) 40) _ _ l1 x34_2 t335 _ ?side1 ?side2 A16.out).mono ?_); (case side1 => repeat (first | exact (Kd.C_below HR1.out HB.out) | (with_reducible refine Kd.C_alloc ?_ _) | (with_reducible refine Kd.C_drewN ?_ _) | (with_reducible refine Kd.C_drew ?_))); (case side2 => exact HC1.out); rintro e w48 ⟨v336, rfl, ho0, hb⟩; have n0_ := Aside0.mk (Kd.R_elder' (by (with_reducible repeat (first | apply Kd.R_alloc | apply Kd.R_drewN | apply Kd.R_drew)); exact HO_6.out) (Kd.R_base ho0) hb); have n1_ := Aside0.mk (Kd.R_lower (Kd.R_new' ho0 (Kd.R_lt (by (with_reducible repeat (first | apply Kd.R_alloc | apply Kd.R_drewN | apply Kd.R_drew)); exact HO_6.out))) (below_size (by repeat (first | (with_reducible first | exact HB.out | apply below_alloc | apply pw_below_drewN | apply below_drew1) | exact HB.out)))); have n2_ := Aside0.mk (below_step (by repeat (first | (with_reducible first | exact HB.out | apply below_alloc | apply pw_below_drewN | apply below_drew1) | exact HB.out)) hb); clear HO_6; clear HB; have HO_6 := n0_; have HO337 := n1_; have HB := n2_; clear n0_ n1_ n2_; (try clear hb); (try clear hb2); (try clear hk); (try clear hi); (try clear ho0); obtain ⟨Ao49, co49, eo49⟩ := Kd.R_slice HO337.out; subst eo49) | (go_at_call 16; (with_reducible refine (antecedentlaw12_CompsReach_1.calls k2 _ _ t335 x34_2 false _ ?side1 ?side2 A17.out).mono ?_); (case side1 => repeat (first | exact (Kd.R_reads' HO337.out).2.2 | (with_reducible refine Kd.C_alloc ?_ _) | (with_reducible refine Kd.C_drewN ?_ _) | (with_reducible refine Kd.C_drew ?_))); (case side2 => exact (Kd.R_reads' HO337.out).2.1); rintro e w' ⟨rfl, ⟨nd, rfl⟩⟩; (try first | exact ⟨rfl, _, World.drewN_drewN _ _ _⟩ | exact ⟨rfl, _, Eq.trans (World.drewN_drewN _ _ _) (congrArg (World.drewN _) (Nat.add_assoc _ _ _))⟩))); try go_wp2_with (first | (go_at_call 14; (with_reducible refine (comps_Reach.calls k2 (Int.tmod (wrap64 (a0)) 40) _ _ l1 x34_2 t335 _ ?side1 ?side2 A16.out).mono ?_); (case side1 => repeat (first | exact (Kd.C_below HR1.out HB.out) | (with_reducible refine Kd.C_alloc ?_ _) | (with_reducible refine Kd.C_drewN ?_ _) | (with_reducible refine Kd.C_drew ?_))); (case side2 => exact HC1.out); rintro e w48 ⟨v336, rfl, ho0, hb⟩; have n0_ := Aside0.mk (Kd.R_elder' (by (with_reducible repeat (first | apply Kd.R_alloc | apply Kd.R_drewN | apply Kd.R_drew)); exact HO_6.out) (Kd.R_base ho0) hb); have n1_ := Aside0.mk (Kd.R_lower (Kd.R_new' ho0 (Kd.R_lt (by (with_reducible repeat (first | apply Kd.R_alloc | apply Kd.R_drewN | apply Kd.R_drew)); exact HO_6.out))) (below_size (by repeat (first | (with_reducible first | exact HB.out | apply below_alloc | apply pw_below_drewN | apply below_drew1) | exact HB.out)))); have n2_ := Aside0.mk (below_step (by repeat (first | (with_reducible first | exact HB.out | apply below_alloc | apply pw_below_drewN | apply below_drew1) | exact HB.out)) hb); clear HO_6; clear HB; have HO_6 := n0_; have HO337 := n1_; have HB := n2_; clear n0_ n1_ n2_; (try clear hb); (try clear hb2); (try clear hk); (try clear hi); (try clear ho0); obtain ⟨Ao49, co49, eo49⟩ := Kd.R_slice HO337.out; subst eo49) | (go_at_call 16; (with_reducible refine (antecedentlaw12_CompsReach_1.calls k2 _ _ t335 x34_2 false _ ?side1 ?side2 A17.out).mono ?_); (case side1 => repeat (first | exact (Kd.R_reads' HO337.out).2.2 | (with_reducible refine Kd.C_alloc ?_ _) | (with_reducible refine Kd.C_drewN ?_ _) | (with_reducible refine Kd.C_drew ?_))); (case side2 => exact (Kd.R_reads' HO337.out).2.1); rintro e w' ⟨rfl, ⟨nd, rfl⟩⟩; (try first | exact ⟨rfl, _, World.drewN_drewN _ _ _⟩ | exact ⟨rfl, _, Eq.trans (World.drewN_drewN _ _ _) (congrArg (World.drewN _) (Nat.add_assoc _ _ _))⟩))))
                  go_wp2
                  repeat (go_quiet (fail); try go_wp2)
                  go_ret
                  exact ⟨by first | rfl | (simp [errW_none, errW_some] <;> rfl) | (simp [*, errW_none, errW_some] <;> rfl), by repeat (first | (with_reducible first | exact HB.out | apply below_alloc | apply pw_below_drewN | apply below_drew1) | exact HB.out)⟩
              · rw [if_neg c15] at H
                have c15b0 : decide (x34_2 < (Int.tmod (wrap64 (a0)) 40)) = false := decide_eq_false c15
                clear c15
                obtain rfl := Option.some.inj H
                go_wp2
                repeat (go_quiet (fail); try go_wp2)
                go_ret
                exact ⟨by first | rfl | (simp [errW_none, errW_some] <;> rfl) | (simp [*, errW_none, errW_some] <;> rfl), by repeat (first | (with_reducible first | exact HB.out | apply below_alloc | apply pw_below_drewN | apply below_drew1) | exact HB.out)⟩
        · rw [if_neg c12] at H
          have c12b0 : ((t332.length : Int) == (Int.tmod (wrap64 (a0)) 40)) = false := beq_eq_false_iff_ne.mpr c12
          have c12b1 : ((t332.length : Int) != (Int.tmod (wrap64 (a0)) 40)) = true := bne_iff_ne.mpr c12
          obtain rfl := Option.some.inj H
          go_wp2_with (first | (go_at_call 12; (with_reducible refine (comps_Comps.calls kj2 (Int.tmod (wrap64 (a0)) 40) _ _ l1 t332 _ ?side1 ?side2 A11.out).mono ?_); (case side1 => repeat (first | exact (Kd.C_below HR1.out HB.out) | (with_reducible refine Kd.C_alloc ?_ _) | (with_reducible refine Kd.C_drewN ?_ _) | (with_reducible refine Kd.C_drew ?_))); (case side2 => exact HC1.out); rintro e w50 ⟨v333, rfl, ho0, hb⟩; have n0_ := Aside0.mk (Kd.R_lower ho0 (below_size (by repeat (first | (with_reducible first | exact HB.out | apply below_alloc | apply pw_below_drewN | apply below_drew1) | exact HB.out)))); have n1_ := Aside0.mk (below_step (by repeat (first | (with_reducible first | exact HB.out | apply below_alloc | apply pw_below_drewN | apply below_drew1) | exact HB.out)) hb); clear HB; have HO334 := n0_; have HB := n1_; clear n0_ n1_; (try clear hb); (try clear hb2); (try clear hk); (try clear hi); (try clear ho0); obtain ⟨Ao51, co51, eo51⟩ := Kd.R_slice HO334.out; subst eo51))
          repeat (go_quiet (first | (go_at_call 12; (with_reducible refine (comps_Comps.calls kj2 (Int.tmod (wrap64 (a0)) 40) _ _ l1 t332 _ ?side1 ?side2 A11.out).mono ?_); (case side1 => repeat (first | exact (Kd.C_below HR1.out HB.out) | (with_reducible refine Kd.C_alloc ?_ _) | (with_reducible refine Kd.C_drewN ?_ _) | (with_reducible refine Kd.C_drew ?_))); (case side2 => exact HC1.out); rintro e w50 ⟨v333, rfl, ho0, hb⟩; have n0_ := Aside0.mk (Kd.R_lower ho0 (below_size (by repeat (first | (with_reducible first | exact HB.out | apply below_alloc | apply pw_below_drewN | apply below_drew1) | exact HB.out)))); have n1_ := Aside0.mk (below_step (by repeat (first | (with_reducible first | exact HB.out | apply below_alloc | apply pw_below_drewN | apply below_drew1) | exact HB.out)) hb); clear HB; have HO334 := n0_; have HB := n1_; clear n0_ n1_; (try clear hb); (try clear hb2); (try clear hk); (try clear hi); (try clear ho0); obtain ⟨Ao51, co51, eo51⟩ := Kd.R_slice HO334.out; subst eo51)); try go_wp2_with (first | (go_at_call 12; (with_reducible refine (comps_Comps.calls kj2 (Int.tmod (wrap64 (a0)) 40) _ _ l1 t332 _ ?side1 ?side2 A11.out).mono ?_); (case side1 => repeat (first | exact (Kd.C_below HR1.out HB.out) | (with_reducible refine Kd.C_alloc ?_ _) | (with_reducible refine Kd.C_drewN ?_ _) | (with_reducible refine Kd.C_drew ?_))); (case side2 => exact HC1.out); rintro e w50 ⟨v333, rfl, ho0, hb⟩; have n0_ := Aside0.mk (Kd.R_lower ho0 (below_size (by repeat (first | (with_reducible first | exact HB.out | apply below_alloc | apply pw_below_drewN | apply below_drew1) | exact HB.out)))); have n1_ := Aside0.mk (below_step (by repeat (first | (with_reducible first | exact HB.out | apply below_alloc | apply pw_below_drewN | apply below_drew1) | exact HB.out)) hb); clear HB; have HO334 := n0_; have HB := n1_; clear n0_ n1_; (try clear hb); (try clear hb2); (try clear hk); (try clear hi); (try clear ho0); obtain ⟨Ao51, co51, eo51⟩ := Kd.R_slice HO334.out; subst eo51)))
          go_wp2
          repeat (go_quiet (fail); try go_wp2)
          go_ret
          exact ⟨by first | rfl | (simp [errW_none, errW_some] <;> rfl) | (simp [*, errW_none, errW_some] <;> rfl), by repeat (first | (with_reducible first | exact HB.out | apply below_alloc | apply pw_below_drewN | apply below_drew1) | exact HB.out)⟩

end Go.Proofs.Ytigpeemgnocdhaa.PZ
