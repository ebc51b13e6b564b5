/- Printed by a turned copy of the printer (wip/mkprint.py): Go functions as Lean functions, with a proof of each. -/
import Derived.Test.YtigpeemgnocdhaaPZx0
import Derived.Test.YtigpeemgnocdhaaPZx3
namespace Go.Proofs.Ytigpeemgnocdhaa.PZ
open Go.RowKit Go.Proofs.YtigpeemgnocdhaaW.PrintWords Go.Proofs.YtigpeemgnocdhaaW.PrintLast Go.Proofs.YtigpeemgnocdhaaW.PrintMore
attribute [local go_sem] max2_int min2_int max_two min_two max_three min_three max_four min_four   -- for this text's walks alone
set_option linter.unusedVariables false
set_option linter.unusedSimpArgs false

/-! ### antecedentlaw12_CompsLists: function 5 -/
mutual
def antecedentlaw12_CompsLists.j0 : Nat → List Int → Bool → Option (Bool)
  | 0, _, _ => none
  | k + 1, x0, x15 => if x15 = true then ((antecedentlaw12_awake.f k).bind fun t270 => (some t270)) else ((comps_Lists.f k x0).bind fun t271 => (antecedentlaw12_CompsLists.l0 k x0 t271 0 (-1) (x0.length : Int) 0))
def antecedentlaw12_CompsLists.l0 : Nat → List Int → List (List Int) → Int → Int → Int → Int → Option (Bool)
  | 0, _, _, _, _, _, _ => none
  | k + 1, x0, x3, x4, x5, x20, x21 => if x21 < x20 then (if 0 ≤ x21 then (if x21 < (x0.length : Int) then (if (rd x0 x21) ≥ 0 then (if (rd x0 x21) ≤ 1000 then (antecedentlaw12_CompsLists.l0 k x0 x3 (wrap64 (x4 + 1)) (mx x5 (rd x0 x21)) x20 (wrap64 (x21 + 1))) else (antecedentlaw12_CompsLists.l0 k x0 x3 x4 x5 x20 (wrap64 (x21 + 1)))) else (antecedentlaw12_CompsLists.l0 k x0 x3 x4 x5 x20 (wrap64 (x21 + 1)))) else (none)) else (none)) else (antecedentlaw12_CompsLists.l1 k x0 x3 x4 x5 (x3.length : Int) 0)
def antecedentlaw12_CompsLists.l1 : Nat → List Int → List (List Int) → Int → Int → Int → Int → Option (Bool)
  | 0, _, _, _, _, _, _ => none
  | k + 1, x0, x3, x4, x5, x46, x47 => if x47 < x46 then (if 0 ≤ x47 then (if x47 < (x3.length : Int) then (antecedentlaw12_CompsLists.l2 k x0 x3 x4 x5 x47 x46 x47 ((rd_L2 x3 x47).length : Int) 0) else (none)) else (none)) else (if x4 = 0 then (some ((x3.length : Int) == (wrap64 (x5 + 1)))) else (some false))
def antecedentlaw12_CompsLists.l2 : Nat → List Int → List (List Int) → Int → Int → Int → Int → Int → Int → Int → Option (Bool)
  | 0, _, _, _, _, _, _, _, _, _ => none
  | k + 1, x0, x3, x4, x5, x7, x46, x47, x54, x55 => if x55 < x54 then (if 0 ≤ x7 then (if x7 < (x3.length : Int) then (if 0 ≤ x55 then (if x55 < ((rd_L2 x3 x7).length : Int) then (if (rd (rd_L2 x3 x7) x55) < 0 then (some false) else (if (rd (rd_L2 x3 x7) x55) ≥ (x0.length : Int) then (some false) else (if 0 ≤ (rd (rd_L2 x3 x7) x55) then (if (rd (rd_L2 x3 x7) x55) < (x0.length : Int) then (if (rd x0 (rd (rd_L2 x3 x7) x55)) = x7 then (if x55 > 0 then (if 0 ≤ (wrap64 (x55 - 1)) then (if (wrap64 (x55 - 1)) < ((rd_L2 x3 x7).length : Int) then (if (rd (rd_L2 x3 x7) x55) ≤ (rd (rd_L2 x3 x7) (wrap64 (x55 - 1))) then (some false) else (antecedentlaw12_CompsLists.l2 k x0 x3 (wrap64 (x4 - 1)) x5 x7 x46 x47 x54 (wrap64 (x55 + 1)))) else (none)) else (none)) else (antecedentlaw12_CompsLists.l2 k x0 x3 (wrap64 (x4 - 1)) x5 x7 x46 x47 x54 (wrap64 (x55 + 1)))) else (some false)) else (none)) else (none)))) else (none)) else (none)) else (none)) else (none)) else (antecedentlaw12_CompsLists.l1 k x0 x3 x4 x5 x46 (wrap64 (x47 + 1)))
end
def antecedentlaw12_CompsLists.f (k : Nat) (l0 : List Int) : Option (Bool) := (antecedentlaw12_awake.f k).bind fun t269 => (if t269 = true then (antecedentlaw12_CompsLists.j0 k l0 (decide ((l0.length : Int) > 100))) else (antecedentlaw12_CompsLists.j0 k l0 true))
theorem antecedentlaw12_CompsLists.mono_l : ∀ k, (∀ y0 y1, LeO (antecedentlaw12_CompsLists.j0 k y0 y1) (antecedentlaw12_CompsLists.j0 (k + 1) y0 y1)) ∧ (∀ y0 y1 y2 y3 y4 y5, LeO (antecedentlaw12_CompsLists.l0 k y0 y1 y2 y3 y4 y5) (antecedentlaw12_CompsLists.l0 (k + 1) y0 y1 y2 y3 y4 y5)) ∧ (∀ y0 y1 y2 y3 y4 y5, LeO (antecedentlaw12_CompsLists.l1 k y0 y1 y2 y3 y4 y5) (antecedentlaw12_CompsLists.l1 (k + 1) y0 y1 y2 y3 y4 y5)) ∧ (∀ y0 y1 y2 y3 y4 y5 y6 y7 y8, LeO (antecedentlaw12_CompsLists.l2 k y0 y1 y2 y3 y4 y5 y6 y7 y8) (antecedentlaw12_CompsLists.l2 (k + 1) y0 y1 y2 y3 y4 y5 y6 y7 y8))
  | 0 => ⟨fun _ _ r h => by simp [antecedentlaw12_CompsLists.j0] at h, fun _ _ _ _ _ _ r h => by simp [antecedentlaw12_CompsLists.l0] at h, fun _ _ _ _ _ _ r h => by simp [antecedentlaw12_CompsLists.l1] at h, fun _ _ _ _ _ _ _ _ _ r h => by simp [antecedentlaw12_CompsLists.l2] at h⟩
  | k + 1 => by
    obtain ⟨ih0, ih1, ih2, ih3⟩ := antecedentlaw12_CompsLists.mono_l k
    refine ⟨?_, ?_, ?_, ?_⟩
    · intro y0 y1
      unfold antecedentlaw12_CompsLists.j0
      repeat' first
      | (with_reducible exact ih0 _ _)
      | (with_reducible exact ih1 _ _ _ _ _ _)
      | (with_reducible exact ih2 _ _ _ _ _ _)
      | (with_reducible exact ih3 _ _ _ _ _ _ _ _ _)
      | (with_reducible exact antecedentlaw12_awake.mono _)
      | (with_reducible exact comps_Lists.mono _ _)
      | (with_reducible exact LeO.refl _)
      | (with_reducible exact LeO.none _)
      | (with_reducible refine LeO.ite ?_ ?_)
      | (with_reducible refine LeO.bind ?_ (fun _ => ?_))
      | exact ih0 _ _
      | exact ih1 _ _ _ _ _ _
      | exact ih2 _ _ _ _ _ _
      | exact ih3 _ _ _ _ _ _ _ _ _
      | exact antecedentlaw12_awake.mono _
      | exact comps_Lists.mono _ _
      | exact LeO.none _
      | refine LeO.ite ?_ ?_
      | refine LeO.bind ?_ (fun _ => ?_)
    · intro y0 y1 y2 y3 y4 y5
      unfold antecedentlaw12_CompsLists.l0
      repeat' first
      | (with_reducible exact ih0 _ _)
      | (with_reducible exact ih1 _ _ _ _ _ _)
      | (with_reducible exact ih2 _ _ _ _ _ _)
      | (with_reducible exact ih3 _ _ _ _ _ _ _ _ _)
      | (with_reducible exact antecedentlaw12_awake.mono _)
      | (with_reducible exact comps_Lists.mono _ _)
      | (with_reducible exact LeO.refl _)
      | (with_reducible exact LeO.none _)
      | (with_reducible refine LeO.ite ?_ ?_)
      | (with_reducible refine LeO.bind ?_ (fun _ => ?_))
      | exact ih0 _ _
      | exact ih1 _ _ _ _ _ _
      | exact ih2 _ _ _ _ _ _
      | exact ih3 _ _ _ _ _ _ _ _ _
      | exact antecedentlaw12_awake.mono _
      | exact comps_Lists.mono _ _
      | exact LeO.none _
      | refine LeO.ite ?_ ?_
      | refine LeO.bind ?_ (fun _ => ?_)
    · intro y0 y1 y2 y3 y4 y5
      unfold antecedentlaw12_CompsLists.l1
      repeat' first
      | (with_reducible exact ih0 _ _)
      | (with_reducible exact ih1 _ _ _ _ _ _)
      | (with_reducible exact ih2 _ _ _ _ _ _)
      | (with_reducible exact ih3 _ _ _ _ _ _ _ _ _)
      | (with_reducible exact antecedentlaw12_awake.mono _)
      | (with_reducible exact comps_Lists.mono _ _)
      | (with_reducible exact LeO.refl _)
      | (with_reducible exact LeO.none _)
      | (with_reducible refine LeO.ite ?_ ?_)
      | (with_reducible refine LeO.bind ?_ (fun _ => ?_))
      | exact ih0 _ _
      | exact ih1 _ _ _ _ _ _
      | exact ih2 _ _ _ _ _ _
      | exact ih3 _ _ _ _ _ _ _ _ _
      | exact antecedentlaw12_awake.mono _
      | exact comps_Lists.mono _ _
      | exact LeO.none _
      | refine LeO.ite ?_ ?_
      | refine LeO.bind ?_ (fun _ => ?_)
    · intro y0 y1 y2 y3 y4 y5 y6 y7 y8
      unfold antecedentlaw12_CompsLists.l2
      repeat' first
      | (with_reducible exact ih0 _ _)
      | (with_reducible exact ih1 _ _ _ _ _ _)
      | (with_reducible exact ih2 _ _ _ _ _ _)
      | (with_reducible exact ih3 _ _ _ _ _ _ _ _ _)
      | (with_reducible exact antecedentlaw12_awake.mono _)
      | (with_reducible exact comps_Lists.mono _ _)
      | (with_reducible exact LeO.refl _)
      | (with_reducible exact LeO.none _)
      | (with_reducible refine LeO.ite ?_ ?_)
      | (with_reducible refine LeO.bind ?_ (fun _ => ?_))
      | exact ih0 _ _
      | exact ih1 _ _ _ _ _ _
      | exact ih2 _ _ _ _ _ _
      | exact ih3 _ _ _ _ _ _ _ _ _
      | exact antecedentlaw12_awake.mono _
      | exact comps_Lists.mono _ _
      | exact LeO.none _
      | refine LeO.ite ?_ ?_
      | refine LeO.bind ?_ (fun _ => ?_)
theorem antecedentlaw12_CompsLists.mono : ∀ a0 k, LeO (antecedentlaw12_CompsLists.f k a0) (antecedentlaw12_CompsLists.f (k + 1) a0) := by
  intro a0 k
  obtain ⟨ih0, ih1, ih2, ih3⟩ := antecedentlaw12_CompsLists.mono_l k
  unfold antecedentlaw12_CompsLists.f
  repeat' first
      | (with_reducible exact ih0 _ _)
      | (with_reducible exact ih1 _ _ _ _ _ _)
      | (with_reducible exact ih2 _ _ _ _ _ _)
      | (with_reducible exact ih3 _ _ _ _ _ _ _ _ _)
      | (with_reducible exact antecedentlaw12_awake.mono _)
      | (with_reducible exact comps_Lists.mono _ _)
      | (with_reducible exact LeO.refl _)
      | (with_reducible exact LeO.none _)
      | (with_reducible refine LeO.ite ?_ ?_)
      | (with_reducible refine LeO.bind ?_ (fun _ => ?_))
      | exact ih0 _ _
      | exact ih1 _ _ _ _ _ _
      | exact ih2 _ _ _ _ _ _
      | exact ih3 _ _ _ _ _ _ _ _ _
      | exact antecedentlaw12_awake.mono _
      | exact comps_Lists.mono _ _
      | exact LeO.none _
      | refine LeO.ite ?_ ?_
      | refine LeO.bind ?_ (fun _ => ?_)
set_option maxHeartbeats 8000000 in
set_option maxRecDepth 100000 in
theorem antecedentlaw12_CompsLists.calls (k : Nat) (A0 : Option Addr) (c0 : Nat) (l0 : List Int) (r : Bool) (w : World) (hr0 : Kd.C (Kd.int .i64) w A0 l0.length l0) (hc0 : l0.length ≤ c0) (h : antecedentlaw12_CompsLists.f k l0 = some r) :
    Calls Try.prog 5 #[.slice A0 l0.length c0] w fun e w' => e = .returned (.bool r) ∧ Below w.heap.size w w' := by
  have HR0 := Aside0.mk hr0
  have HC0 := Aside0.mk hc0
  clear hr0 hc0
  have HB := Aside0.mk (Below.refl w.heap.size w)
  have H : ((antecedentlaw12_awake.f k).bind fun t269 => (if t269 = true then (antecedentlaw12_CompsLists.j0 k l0 (decide ((l0.length : Int) > 100))) else (antecedentlaw12_CompsLists.j0 k l0 true))) = some r := h
  clear h
  have HC2 := Aside0.mk H
  clear H
  go_enter Try.func5, Try.ntmps5
  go_upto_region 1 with (fail)
  repeat (go_quiet (fail); go_upto_region 1 with (fail))
  go_cut [15] (fun v15 wc => ∃ (kq : Nat) (x15_1 : Bool), v15 = .bool x15_1 ∧ Aside0 (antecedentlaw12_CompsLists.j0 kq l0 x15_1 = some r) ∧ Aside0 (kq ≤ k) ∧ Aside0 (Below w.heap.size w wc))
  case first =>
    have H := HC2.out
    clear HC2
    replace H := Option.bind_eq_some_iff.mp H
    obtain ⟨t269, A30, H⟩ := H
    replace H : (if t269 = true then (antecedentlaw12_CompsLists.j0 k l0 (decide ((l0.length : Int) > 100))) else (antecedentlaw12_CompsLists.j0 k l0 true)) = some r := H
    have A3 := Aside0.mk A30
    clear A30
    by_cases c4 : t269 = true
    · subst c4
      have H1 : (antecedentlaw12_CompsLists.j0 k l0 (decide ((l0.length : Int) > 100))) = some r := by rw [if_pos rfl] at H; exact H
      clear H
      have H := H1
      clear H1
      have H' := Aside0.mk H
      clear H
      go_wp2_with (first | (go_at_call 9; (with_reducible refine (antecedentlaw12_awake.calls k  true _ A3.out).mono ?_); rintro e w5 ⟨rfl, hb⟩; have n0_ := Aside0.mk (below_step (by repeat (first | (with_reducible first | exact HB.out | apply below_alloc | apply pw_below_drewN | apply below_drew1) | exact HB.out)) hb); clear HB; have HB := n0_; clear n0_; (try clear hb); (try clear hb2); (try clear hk); (try clear hi)))
      repeat (go_quiet (first | (go_at_call 9; (with_reducible refine (antecedentlaw12_awake.calls k  true _ A3.out).mono ?_); rintro e w5 ⟨rfl, hb⟩; have n0_ := Aside0.mk (below_step (by repeat (first | (with_reducible first | exact HB.out | apply below_alloc | apply pw_below_drewN | apply below_drew1) | exact HB.out)) hb); clear HB; have HB := n0_; clear n0_; (try clear hb); (try clear hb2); (try clear hk); (try clear hi))); try go_wp2_with (first | (go_at_call 9; (with_reducible refine (antecedentlaw12_awake.calls k  true _ A3.out).mono ?_); rintro e w5 ⟨rfl, hb⟩; have n0_ := Aside0.mk (below_step (by repeat (first | (with_reducible first | exact HB.out | apply below_alloc | apply pw_below_drewN | apply below_drew1) | exact HB.out)) hb); clear HB; have HB := n0_; clear n0_; (try clear hb); (try clear hb2); (try clear hk); (try clear hi))))
      go_wp2
      repeat (go_quiet (fail); try go_wp2)
      go_meet
      case rel => exact ⟨_, (decide ((l0.length : Int) > 100)), (by first | rfl | (simp; done) | (simp [*]; done)), H', ⟨by first | omega | exact Nat.le_refl _⟩, ⟨by repeat (first | (with_reducible first | exact HB.out | apply below_alloc | apply pw_below_drewN | apply below_drew1) | exact HB.out)⟩⟩
    · replace c4 := Bool.eq_false_iff.mpr c4
      subst c4
      have H1 : (antecedentlaw12_CompsLists.j0 k l0 true) = some r := by rw [if_neg (show ¬ (false = true) by decide)] at H; exact H
      clear H
      have H := H1
      clear H1
      have H' := Aside0.mk H
      clear H
      go_wp2_with (first | (go_at_call 9; (with_reducible refine (antecedentlaw12_awake.calls k  false _ A3.out).mono ?_); rintro e w6 ⟨rfl, hb⟩; have n0_ := Aside0.mk (below_step (by repeat (first | (with_reducible first | exact HB.out | apply below_alloc | apply pw_below_drewN | apply below_drew1) | exact HB.out)) hb); clear HB; have HB := n0_; clear n0_; (try clear hb); (try clear hb2); (try clear hk); (try clear hi)))
      repeat (go_quiet (first | (go_at_call 9; (with_reducible refine (antecedentlaw12_awake.calls k  false _ A3.out).mono ?_); rintro e w6 ⟨rfl, hb⟩; have n0_ := Aside0.mk (below_step (by repeat (first | (with_reducible first | exact HB.out | apply below_alloc | apply pw_below_drewN | apply below_drew1) | exact HB.out)) hb); clear HB; have HB := n0_; clear n0_; (try clear hb); (try clear hb2); (try clear hk); (try clear hi))); try go_wp2_with (first | (go_at_call 9; (with_reducible refine (antecedentlaw12_awake.calls k  false _ A3.out).mono ?_); rintro e w6 ⟨rfl, hb⟩; have n0_ := Aside0.mk (below_step (by repeat (first | (with_reducible first | exact HB.out | apply below_alloc | apply pw_below_drewN | apply below_drew1) | exact HB.out)) hb); clear HB; have HB := n0_; clear n0_; (try clear hb); (try clear hb2); (try clear hk); (try clear hi))))
      go_wp2
      repeat (go_quiet (fail); try go_wp2)
      go_meet
      case rel => exact ⟨_, (true), (by first | rfl | (simp; done) | (simp [*]; done)), H', ⟨by first | omega | exact Nat.le_refl _⟩, ⟨by repeat (first | (with_reducible first | exact HB.out | apply below_alloc | apply pw_below_drewN | apply below_drew1) | exact HB.out)⟩⟩
  case rest =>
    clear HC2
    try clear p2
    try clear c4
    try clear c5
    obtain ⟨kq, x15_1, rfl, HA, HJ1, HB⟩ := hcut
    cases kq with
    | zero => exact absurd HA.out (by simp [antecedentlaw12_CompsLists.j0])
    | succ kj1 =>
      have H := HA.out
      clear HA
      simp only [antecedentlaw12_CompsLists.j0] at H
      by_cases c7 : x15_1 = true
      · subst c7
        have H1 : ((antecedentlaw12_awake.f kj1).bind fun t270 => (some t270)) = some r := by rw [if_pos rfl] at H; exact H
        clear H
        have H := H1
        clear H1
        replace H := Option.bind_eq_some_iff.mp H
        obtain ⟨t270, A80, H⟩ := H
        replace H : (some t270) = some r := H
        have A8 := Aside0.mk A80
        clear A80
        obtain rfl := Option.some.inj H
        go_wp2_with (first | (go_at_call 9; (with_reducible refine (antecedentlaw12_awake.calls kj1  t270 _ A8.out).mono ?_); rintro e w9 ⟨rfl, hb⟩; have n0_ := Aside0.mk (below_step (by repeat (first | (with_reducible first | exact HB.out | apply below_alloc | apply pw_below_drewN | apply below_drew1) | exact HB.out)) hb); clear HB; have HB := n0_; clear n0_; (try clear hb); (try clear hb2); (try clear hk); (try clear hi)))
        repeat (go_quiet (first | (go_at_call 9; (with_reducible refine (antecedentlaw12_awake.calls kj1  t270 _ A8.out).mono ?_); rintro e w9 ⟨rfl, hb⟩; have n0_ := Aside0.mk (below_step (by repeat (first | (with_reducible first | exact HB.out | apply below_alloc | apply pw_below_drewN | apply below_drew1) | exact HB.out)) hb); clear HB; have HB := n0_; clear n0_; (try clear hb); (try clear hb2); (try clear hk); (try clear hi))); try go_wp2_with (first | (go_at_call 9; (with_reducible refine (antecedentlaw12_awake.calls kj1  t270 _ A8.out).mono ?_); rintro e w9 ⟨rfl, hb⟩; have n0_ := Aside0.mk (below_step (by repeat (first | (with_reducible first | exact HB.out | apply below_alloc | apply pw_below_drewN | apply below_drew1) | exact HB.out)) hb); clear HB; have HB := n0_; clear n0_; (try clear hb); (try clear hb2); (try clear hk); (try clear hi))))
        go_wp2
        repeat (go_quiet (fail); try go_wp2)
        go_ret
        exact ⟨by first | rfl | (simp [errW_none, errW_some] <;> rfl) | (simp [*, errW_none, errW_some] <;> rfl), by repeat (first | (with_reducible first | exact HB.out | apply below_alloc | apply pw_below_drewN | apply below_drew1) | exact HB.out)⟩
      · replace c7 := Bool.eq_false_iff.mpr c7
        subst c7
        have H1 : ((comps_Lists.f kj1 l0).bind fun t271 => (antecedentlaw12_CompsLists.l0 kj1 l0 t271 0 (-1) (l0.length : Int) 0)) = some r := by rw [if_neg (show ¬ (false = true) by decide)] at H; exact H
        clear H
        have H := H1
        clear H1
        replace H := Option.bind_eq_some_iff.mp H
        obtain ⟨t271, A100, H⟩ := H
        replace H : (antecedentlaw12_CompsLists.l0 kj1 l0 t271 0 (-1) (l0.length : Int) 0) = some r := H
        have A10 := Aside0.mk A100
        clear A100
        have H' := Aside0.mk H
        clear H
        go_wp2_with (first | (go_at_call 15; (with_reducible refine (comps_Lists.calls kj1 _ _ l0 t271 _ ?side1 ?side2 A10.out).mono ?_); (case side1 => repeat (first | exact (Kd.C_below HR0.out HB.out) | (with_reducible refine Kd.C_alloc ?_ _) | (with_reducible refine Kd.C_drewN ?_ _) | (with_reducible refine Kd.C_drew ?_))); (case side2 => exact HC0.out); rintro e w11 ⟨v272, rfl, ho0, hb⟩; have n0_ := Aside0.mk (Kd.S_lower ho0 (below_size (by repeat (first | (with_reducible first | exact HB.out | apply below_alloc | apply pw_below_drewN | apply below_drew1) | exact HB.out)))); have n1_ := Aside0.mk (below_step (by repeat (first | (with_reducible first | exact HB.out | apply below_alloc | apply pw_below_drewN | apply below_drew1) | exact HB.out)) hb); clear HB; have HO273 := n0_; have HB := n1_; clear n0_ n1_; (try clear hb); (try clear hb2); (try clear hk); (try clear hi); (try clear ho0)))
        repeat (go_quiet (first | (go_at_call 15; (with_reducible refine (comps_Lists.calls kj1 _ _ l0 t271 _ ?side1 ?side2 A10.out).mono ?_); (case side1 => repeat (first | exact (Kd.C_below HR0.out HB.out) | (with_reducible refine Kd.C_alloc ?_ _) | (with_reducible refine Kd.C_drewN ?_ _) | (with_reducible refine Kd.C_drew ?_))); (case side2 => exact HC0.out); rintro e w11 ⟨v272, rfl, ho0, hb⟩; have n0_ := Aside0.mk (Kd.S_lower ho0 (below_size (by repeat (first | (with_reducible first | exact HB.out | apply below_alloc | apply pw_below_drewN | apply below_drew1) | exact HB.out)))); have n1_ := Aside0.mk (below_step (by repeat (first | (with_reducible first | exact HB.out | apply below_alloc | apply pw_below_drewN | apply below_drew1) | exact HB.out)) hb); clear HB; have HO273 := n0_; have HB := n1_; clear n0_ n1_; (try clear hb); (try clear hb2); (try clear hk); (try clear hi); (try clear ho0))); try go_wp2_with (first | (go_at_call 15; (with_reducible refine (comps_Lists.calls kj1 _ _ l0 t271 _ ?side1 ?side2 A10.out).mono ?_); (case side1 => repeat (first | exact (Kd.C_below HR0.out HB.out) | (with_reducible refine Kd.C_alloc ?_ _) | (with_reducible refine Kd.C_drewN ?_ _) | (with_reducible refine Kd.C_drew ?_))); (case side2 => exact HC0.out); rintro e w11 ⟨v272, rfl, ho0, hb⟩; have n0_ := Aside0.mk (Kd.S_lower ho0 (below_size (by repeat (first | (with_reducible first | exact HB.out | apply below_alloc | apply pw_below_drewN | apply below_drew1) | exact HB.out)))); have n1_ := Aside0.mk (below_step (by repeat (first | (with_reducible first | exact HB.out | apply below_alloc | apply pw_below_drewN | apply below_drew1) | exact HB.out)) hb); clear HB; have HO273 := n0_; have HB := n1_; clear n0_ n1_; (try clear hb); (try clear hb2); (try clear hk); (try clear hi); (try clear ho0))))
        go_wp2
        repeat (go_quiet (fail); try go_wp2)
        go_loopg [4, 5, 21] kj1 (fun kq v4 v5 v21 w' => ∃ (x4_2 : Int) (x5_2 : Int) (x21_2 : Int), v4 = .int .i64 x4_2 ∧ v5 = .int .i64 x5_2 ∧ v21 = .int .i64 x21_2 ∧ Aside0 (antecedentlaw12_CompsLists.l0 kq l0 t271 x4_2 x5_2 (l0.length : Int) x21_2 = some r) ∧ Aside0 (kq ≤ kj1) ∧ Aside0 (Kd.S (Kd.slice 3 (Kd.int .i64)) 26 w' w.heap.size (fun _ => True) v272 t271) ∧ Aside0 (Below w.heap.size w w'))
        case atStart => exact ⟨(0), ((-1)), (0), (by first | rfl | (simp; done) | (simp [*]; done)), (by first | rfl | (simp; done) | (simp [*]; done)), (by first | rfl | (simp; done) | (simp [*]; done)), H', ⟨Nat.le_refl _⟩, ⟨by (with_reducible repeat (first | apply Kd.S_alloc | apply Kd.S_drewN | apply Kd.S_drew)); exact HO273.out⟩, ⟨by repeat (first | (with_reducible first | exact HB.out | apply below_alloc | apply pw_below_drewN | apply below_drew1) | exact HB.out)⟩⟩
        case round =>
          clear H'
          try clear p2
          try clear c4
          try clear c5
          try clear c7
          try clear p2
          obtain ⟨x4_2, x5_2, x21_2, rfl, rfl, rfl, HA, HK2, HO_3, HB⟩ := hrel
          cases gk with
          | zero => exact absurd HA.out (by simp [antecedentlaw12_CompsLists.l0])
          | succ k2 =>
            have H := HA.out
            clear HA
            simp only [antecedentlaw12_CompsLists.l0] at H
            by_cases c12 : x21_2 < (l0.length : Int)
            · rw [if_pos c12] at H
              have c12b0 : decide (x21_2 < (l0.length : Int)) = true := decide_eq_true c12
              clear c12
              by_cases c13 : 0 ≤ x21_2
              · rw [if_pos c13] at H
                have c13b0 : decide (0 ≤ x21_2) = true := decide_eq_true c13
                clear c13
                by_cases c14 : x21_2 < (l0.length : Int)
                · rw [if_pos c14] at H
                  have c14b0 : decide (x21_2 < (l0.length : Int)) = true := decide_eq_true c14
                  clear c14
                  by_cases c15 : (rd l0 x21_2) ≥ 0
                  · rw [if_pos c15] at H
                    have c15b0 : decide (0 ≤ (rd l0 x21_2)) = true := decide_eq_true c15
                    clear c15
                    by_cases c16 : (rd l0 x21_2) ≤ 1000
                    · rw [if_pos c16] at H
                      have c16b0 : decide ((rd l0 x21_2) ≤ 1000) = true := decide_eq_true c16
                      clear c16
                      obtain ⟨ji17, hji17⟩ : ∃ j_ : Int, (mx x5_2 (rd l0 x21_2)) = j_ := ⟨_, rfl⟩
                      replace H : (antecedentlaw12_CompsLists.l0 k2 l0 t271 (wrap64 (x4_2 + 1)) ji17 (l0.length : Int) (wrap64 (x21_2 + 1))) = some r := by first | (rw [hji17] at H; exact H) | (simp only [hji17] at H ⊢; exact H)
                      have hji17_ : (if x5_2 < (rd l0 x21_2) then (rd l0 x21_2) else x5_2) = ji17 := hji17
                      have H' := Aside0.mk H
                      clear H
                      have p274 : 0 ≤ (x21_2 : Int) := of_decide_eq_true (by first | (with_reducible assumption) | assumption)
                      have q274 : x21_2 < (l0.length : Int) := of_decide_eq_true (by first | (with_reducible assumption) | assumption)
                      obtain ⟨ad274, e274, hx274_0⟩ := Kd.at_int HR0.out x21_2 p274 q274
                      cases e274
                      replace hx274_0 := (HB.out.cell (World.block_lt_of_cell? w _ hx274_0)).trans hx274_0
                      replace p274 := eq_true p274
                      replace q274 := eq_true q274
                      have p275 : 0 ≤ (x21_2 : Int) := of_decide_eq_true (by first | (with_reducible assumption) | assumption)
                      have q275 : x21_2 < (l0.length : Int) := of_decide_eq_true (by first | (with_reducible assumption) | assumption)
                      obtain ⟨ad275, e275, hx275_0⟩ := Kd.at_int HR0.out x21_2 p275 q275
                      obtain rfl : ad274 = ad275 := (by injection e275)
                      replace hx275_0 := (HB.out.cell (World.block_lt_of_cell? w _ hx275_0)).trans hx275_0
                      replace p275 := eq_true p275
                      replace q275 := eq_true q275
                      have p276 : 0 ≤ (x21_2 : Int) := of_decide_eq_true (by first | (with_reducible assumption) | assumption)
                      have q276 : x21_2 < (l0.length : Int) := of_decide_eq_true (by first | (with_reducible assumption) | assumption)
                      obtain ⟨ad276, e276, hx276_0⟩ := Kd.at_int HR0.out x21_2 p276 q276
                      obtain rfl : ad274 = ad276 := (by injection e276)
                      replace hx276_0 := (HB.out.cell (World.block_lt_of_cell? w _ hx276_0)).trans hx276_0
                      replace p276 := eq_true p276
                      replace q276 := eq_true q276
                      go_wp2
                      repeat (go_quiet (fail); try go_wp2)
                      go_roundg k2
                      case measure => have := HJ1.out; have := HK2.out; omega
                      case rel => exact ⟨(wrap64 (x4_2 + 1)), (ji17), (wrap64 (x21_2 + 1)), (by first | rfl | (simp; done) | (simp [*]; done)), (by first | rfl | (simp; done) | (simp only [← hji17] <;> (first | rfl | simp)) | (simp [*]; done)), (by first | rfl | (simp; done) | (simp [*]; done)), H', ⟨by have := HJ1.out; have := HK2.out; omega⟩, ⟨by (with_reducible repeat (first | apply Kd.S_alloc | apply Kd.S_drewN | apply Kd.S_drew)); exact HO_3.out⟩, ⟨by repeat (first | (with_reducible first | exact HB.out | apply below_alloc | apply pw_below_drewN | apply below_drew1) | exact HB.out)⟩⟩
                    · rw [if_neg c16] at H
                      have c16b0 : decide ((rd l0 x21_2) ≤ 1000) = false := decide_eq_false c16
                      clear c16
                      have H' := Aside0.mk H
                      clear H
                      have p274 : 0 ≤ (x21_2 : Int) := of_decide_eq_true (by first | (with_reducible assumption) | assumption)
                      have q274 : x21_2 < (l0.length : Int) := of_decide_eq_true (by first | (with_reducible assumption) | assumption)
                      obtain ⟨ad274, e274, hx274_0⟩ := Kd.at_int HR0.out x21_2 p274 q274
                      cases e274
                      replace hx274_0 := (HB.out.cell (World.block_lt_of_cell? w _ hx274_0)).trans hx274_0
                      replace p274 := eq_true p274
                      replace q274 := eq_true q274
                      have p275 : 0 ≤ (x21_2 : Int) := of_decide_eq_true (by first | (with_reducible assumption) | assumption)
                      have q275 : x21_2 < (l0.length : Int) := of_decide_eq_true (by first | (with_reducible assumption) | assumption)
                      obtain ⟨ad275, e275, hx275_0⟩ := Kd.at_int HR0.out x21_2 p275 q275
                      obtain rfl : ad274 = ad275 := (by injection e275)
                      replace hx275_0 := (HB.out.cell (World.block_lt_of_cell? w _ hx275_0)).trans hx275_0
                      replace p275 := eq_true p275
                      replace q275 := eq_true q275
                      go_wp2
                      repeat (go_quiet (fail); try go_wp2)
                      go_roundg k2
                      case measure => have := HJ1.out; have := HK2.out; omega
                      case rel => exact ⟨(x4_2), (x5_2), (wrap64 (x21_2 + 1)), (by first | rfl | (simp; done) | (simp [*]; done)), (by first | rfl | (simp; done) | (simp [*]; done)), (by first | rfl | (simp; done) | (simp [*]; done)), H', ⟨by have := HJ1.out; have := HK2.out; omega⟩, ⟨by (with_reducible repeat (first | apply Kd.S_alloc | apply Kd.S_drewN | apply Kd.S_drew)); exact HO_3.out⟩, ⟨by repeat (first | (with_reducible first | exact HB.out | apply below_alloc | apply pw_below_drewN | apply below_drew1) | exact HB.out)⟩⟩
                  · rw [if_neg c15] at H
                    have c15b0 : decide (0 ≤ (rd l0 x21_2)) = false := decide_eq_false c15
                    clear c15
                    have H' := Aside0.mk H
                    clear H
                    have p274 : 0 ≤ (x21_2 : Int) := of_decide_eq_true (by first | (with_reducible assumption) | assumption)
                    have q274 : x21_2 < (l0.length : Int) := of_decide_eq_true (by first | (with_reducible assumption) | assumption)
                    obtain ⟨ad274, e274, hx274_0⟩ := Kd.at_int HR0.out x21_2 p274 q274
                    cases e274
                    replace hx274_0 := (HB.out.cell (World.block_lt_of_cell? w _ hx274_0)).trans hx274_0
                    replace p274 := eq_true p274
                    replace q274 := eq_true q274
                    go_wp2
                    repeat (go_quiet (fail); try go_wp2)
                    go_roundg k2
                    case measure => have := HJ1.out; have := HK2.out; omega
                    case rel => exact ⟨(x4_2), (x5_2), (wrap64 (x21_2 + 1)), (by first | rfl | (simp; done) | (simp [*]; done)), (by first | rfl | (simp; done) | (simp [*]; done)), (by first | rfl | (simp; done) | (simp [*]; done)), H', ⟨by have := HJ1.out; have := HK2.out; omega⟩, ⟨by (with_reducible repeat (first | apply Kd.S_alloc | apply Kd.S_drewN | apply Kd.S_drew)); exact HO_3.out⟩, ⟨by repeat (first | (with_reducible first | exact HB.out | apply below_alloc | apply pw_below_drewN | apply below_drew1) | exact HB.out)⟩⟩
                · rw [if_neg c14] at H
                  exact absurd H (by simp)
              · rw [if_neg c13] at H
                exact absurd H (by simp)
            · rw [if_neg c12] at H
              have c12b0 : decide (x21_2 < (l0.length : Int)) = false := decide_eq_false c12
              clear c12
              have H' := Aside0.mk H
              clear H
              obtain ⟨Ao18, co18, eo18⟩ := Kd.S_slice HO_3.out
              subst eo18
              go_wp2
              repeat (go_quiet (fail); try go_wp2)
              go_loopg [4, 47] k2 (fun kq v4 v47 w' => ∃ (x4_3 : Int) (x47_3 : Int), v4 = .int .i64 x4_3 ∧ v47 = .int .i64 x47_3 ∧ Aside0 (antecedentlaw12_CompsLists.l1 kq l0 t271 x4_3 x5_2 (t271.length : Int) x47_3 = some r) ∧ Aside0 (kq ≤ k2) ∧ Aside0 (Kd.S (Kd.slice 3 (Kd.int .i64)) 26 w' w.heap.size (fun _ => True) (.slice Ao18 t271.length co18) t271) ∧ Aside0 (Below w.heap.size w w'))
              case atStart => exact ⟨(x4_2), (0), (by first | rfl | (simp; done) | (simp [*]; done)), (by first | rfl | (simp; done) | (simp [*]; done)), H', ⟨Nat.le_refl _⟩, ⟨by (with_reducible repeat (first | apply Kd.S_alloc | apply Kd.S_drewN | apply Kd.S_drew)); exact HO_3.out⟩, ⟨by repeat (first | (with_reducible first | exact HB.out | apply below_alloc | apply pw_below_drewN | apply below_drew1) | exact HB.out)⟩⟩
              case round =>
                clear H'
                try clear c1
                try clear p2
                try clear q2
                try clear hx2
                try clear c4
                try clear c5
                try clear p6
                try clear c7
                try clear c12
                try clear c12b0
                try clear c13
                try clear c13b0
                try clear c14
                try clear c14b0
                try clear c15
                try clear c15b0
                try clear c16
                try clear c16b0
                try clear hx274_0
                try clear hx275_0
                try clear hx276_0
                try clear p2
                try clear p274
                try clear p275
                try clear p276
                try clear q274
                try clear q275
                try clear q276
                obtain ⟨x4_3, x47_3, rfl, rfl, HA, HK3, HO_3, HB⟩ := hrel
                cases gk with
                | zero => exact absurd HA.out (by simp [antecedentlaw12_CompsLists.l1])
                | succ k3 =>
                  have H := HA.out
                  clear HA
                  simp only [antecedentlaw12_CompsLists.l1] at H
                  by_cases c19 : x47_3 < (t271.length : Int)
                  · rw [if_pos c19] at H
                    have c19b0 : decide (x47_3 < (t271.length : Int)) = true := decide_eq_true c19
                    clear c19
                    by_cases c20 : 0 ≤ x47_3
                    · rw [if_pos c20] at H
                      have c20b0 : decide (0 ≤ x47_3) = true := decide_eq_true c20
                      clear c20
                      by_cases c21 : x47_3 < (t271.length : Int)
                      · rw [if_pos c21] at H
                        have c21b0 : decide (x47_3 < (t271.length : Int)) = true := decide_eq_true c21
                        clear c21
                        have H' := Aside0.mk H
                        clear H
                        have p277 : 0 ≤ (x47_3 : Int) := of_decide_eq_true (by first | (with_reducible assumption) | assumption)
                        have q277 : x47_3 < (t271.length : Int) := of_decide_eq_true (by first | (with_reducible assumption) | assumption)
                        obtain ⟨ad277, A277_0, c277_0, e277, hx277_0, hl277_0, hi277_0⟩ := at_L2 (Kd.S_reads' HO_3.out).2.2 x47_3 p277 q277
                        cases e277
                        obtain ⟨ce277, hce277, hMe277, hcc277⟩ := Kd.S_get HO_3.out [] x47_3 p277 (by first | exact q277 | exact of_decide_eq_true (by first | (with_reducible assumption) | assumption) | (have e_ := (Kd.S_reads' HO_3.out).1; omega))
                        obtain ⟨ve277_0, rfl, ge277_0⟩ := hMe277
                        have hv277_0 := hcc277 0 _ rfl
                        rw [Nat.add_zero, show ((Kd.slice 3 (Kd.int .i64))).sz = 1 from rfl, Nat.mul_one] at hv277_0
                        replace hv277_0 := Option.some.inj (hv277_0.symm.trans hx277_0)
                        rw [hv277_0] at ge277_0
                        have HL277_0 := Aside0.mk (show Kd.R (Kd.int .i64) 3 _ _ _ _ (rd_L2 t271 x47_3) from ge277_0)
                        clear hv277_0 ge277_0
                        clear hcc277 hce277
                        have HR277_0 := Aside0.mk hi277_0
                        have HC277_0 := Aside0.mk hl277_0
                        clear hi277_0 hl277_0
                        replace p277 := eq_true p277
                        replace q277 := eq_true q277
                        go_wp2
                        repeat (go_quiet (fail); try go_wp2)
                        go_loopg [4, 55] k3 (fun kq v4 v55 w' => ∃ (x4_4 : Int) (x55_4 : Int), v4 = .int .i64 x4_4 ∧ v55 = .int .i64 x55_4 ∧ Aside0 (antecedentlaw12_CompsLists.l2 kq l0 t271 x4_4 x5_2 x47_3 (t271.length : Int) x47_3 ((rd_L2 t271 x47_3).length : Int) x55_4 = some r) ∧ Aside0 (kq ≤ k3) ∧ Aside0 (Kd.S (Kd.slice 3 (Kd.int .i64)) 26 w' w.heap.size (fun _ => True) (.slice (some ad277) t271.length co18) t271) ∧ Aside0 (Kd.C (Kd.int .i64) w' A277_0 (rd_L2 t271 x47_3).length (rd_L2 t271 x47_3)) ∧ Aside0 (Below w.heap.size w w'))
                        case atStart => exact ⟨(x4_3), (0), (by first | rfl | (simp; done) | (simp [*]; done)), (by first | rfl | (simp; done) | (simp [*]; done)), H', ⟨Nat.le_refl _⟩, ⟨by (with_reducible repeat (first | apply Kd.S_alloc | apply Kd.S_drewN | apply Kd.S_drew)); exact HO_3.out⟩, ⟨by repeat (first | (with_reducible exact HR277_0.out) | (with_reducible refine Kd.C_alloc ?_ _) | (with_reducible refine Kd.C_drewN ?_ _) | (with_reducible refine Kd.C_drew ?_) | exact HR277_0.out)⟩, ⟨by repeat (first | (with_reducible first | exact HB.out | apply below_alloc | apply pw_below_drewN | apply below_drew1) | exact HB.out)⟩⟩
                        case round =>
                          clear H'
                          try clear c1
                          try clear c2
                          try clear p2
                          try clear q2
                          try clear hx2
                          try clear c4
                          try clear c5
                          try clear p6
                          try clear c7
                          try clear c12
                          try clear c12b0
                          try clear c13
                          try clear c13b0
                          try clear c14
                          try clear c14b0
                          try clear c15
                          try clear c15b0
                          try clear c16
                          try clear c16b0
                          try clear c19
                          try clear c19b0
                          try clear c20
                          try clear c20b0
                          try clear c21
                          try clear c21b0
                          try clear hx274_0
                          try clear hx275_0
                          try clear hx276_0
                          try clear hx277_0
                          try clear p2
                          try clear p274
                          try clear p275
                          try clear p276
                          try clear p277
                          try clear p6
                          try clear q2
                          try clear q274
                          try clear q275
                          try clear q276
                          try clear q277
                          obtain ⟨x4_4, x55_4, rfl, rfl, HA, HK4, HO_3, HR277_0, HB⟩ := hrel
                          cases gk with
                          | zero => exact absurd HA.out (by simp [antecedentlaw12_CompsLists.l2])
                          | succ k4 =>
                            have H := HA.out
                            clear HA
                            simp only [antecedentlaw12_CompsLists.l2] at H
                            by_cases c22 : x55_4 < ((rd_L2 t271 x47_3).length : Int)
                            · rw [if_pos c22] at H
                              have c22b0 : decide (x55_4 < ((rd_L2 t271 x47_3).length : Int)) = true := decide_eq_true c22
                              clear c22
                              by_cases c23 : 0 ≤ x47_3
                              · rw [if_pos c23] at H
                                have c23b0 : decide (0 ≤ x47_3) = true := decide_eq_true c23
                                clear c23
                                by_cases c24 : x47_3 < (t271.length : Int)
                                · rw [if_pos c24] at H
                                  have c24b0 : decide (x47_3 < (t271.length : Int)) = true := decide_eq_true c24
                                  clear c24
                                  by_cases c25 : 0 ≤ x55_4
                                  · rw [if_pos c25] at H
                                    have c25b0 : decide (0 ≤ x55_4) = true := decide_eq_true c25
                                    clear c25
                                    by_cases c26 : x55_4 < ((rd_L2 t271 x47_3).length : Int)
                                    · rw [if_pos c26] at H
                                      have c26b0 : decide (x55_4 < ((rd_L2 t271 x47_3).length : Int)) = true := decide_eq_true c26
                                      clear c26
                                      by_cases c27 : (rd (rd_L2 t271 x47_3) x55_4) < 0
                                      · rw [if_pos c27] at H
                                        have c27b0 : decide ((rd (rd_L2 t271 x47_3) x55_4) < 0) = true := decide_eq_true c27
                                        clear c27
                                        obtain rfl := Option.some.inj H
                                        have p278 : 0 ≤ (x47_3 : Int) := of_decide_eq_true (by first | (with_reducible assumption) | assumption)
                                        have q278 : x47_3 < (t271.length : Int) := of_decide_eq_true (by first | (with_reducible assumption) | assumption)
                                        obtain ⟨ad278, A278_0, c278_0, e278, hx278_0, hl278_0, hi278_0⟩ := at_L2 (Kd.S_reads' HO_3.out).2.2 x47_3 p278 q278
                                        obtain rfl : ad277 = ad278 := (by injection e278)
                                        obtain ⟨ce278, hce278, hMe278, hcc278⟩ := Kd.S_get HO_3.out [] x47_3 p278 (by first | exact q278 | exact of_decide_eq_true (by first | (with_reducible assumption) | assumption) | (have e_ := (Kd.S_reads' HO_3.out).1; omega))
                                        obtain ⟨ve278_0, rfl, ge278_0⟩ := hMe278
                                        have hv278_0 := hcc278 0 _ rfl
                                        rw [Nat.add_zero, show ((Kd.slice 3 (Kd.int .i64))).sz = 1 from rfl, Nat.mul_one] at hv278_0
                                        replace hv278_0 := Option.some.inj (hv278_0.symm.trans hx278_0)
                                        rw [hv278_0] at ge278_0
                                        have HL278_0 := Aside0.mk (show Kd.R (Kd.int .i64) 3 _ _ _ _ (rd_L2 t271 x47_3) from ge278_0)
                                        clear hv278_0 ge278_0
                                        clear hcc278 hce278
                                        have HR278_0 := Aside0.mk hi278_0
                                        have HC278_0 := Aside0.mk hl278_0
                                        clear hi278_0 hl278_0
                                        replace p278 := eq_true p278
                                        replace q278 := eq_true q278
                                        have p279 : 0 ≤ (x55_4 : Int) := of_decide_eq_true (by first | (with_reducible assumption) | assumption)
                                        have q279 : x55_4 < ((rd_L2 t271 x47_3).length : Int) := of_decide_eq_true (by first | (with_reducible assumption) | assumption)
                                        obtain ⟨ad279, e279, hx279_0⟩ := Kd.at_int (by repeat (first | (with_reducible exact HR278_0.out) | (with_reducible refine Kd.C_alloc ?_ _) | (with_reducible refine Kd.C_drewN ?_ _) | (with_reducible refine Kd.C_drew ?_) | exact HR278_0.out)) x55_4 p279 q279
                                        cases e279
                                        replace p279 := eq_true p279
                                        replace q279 := eq_true q279
                                        go_wp2
                                        repeat (go_quiet (fail); try go_wp2)
                                        go_ret
                                        exact ⟨by first | rfl | (simp [errW_none, errW_some] <;> rfl) | (simp [*, errW_none, errW_some] <;> rfl), by repeat (first | (with_reducible first | exact HB.out | apply below_alloc | apply pw_below_drewN | apply below_drew1) | exact HB.out)⟩
                                      · rw [if_neg c27] at H
                                        have c27b0 : decide ((rd (rd_L2 t271 x47_3) x55_4) < 0) = false := decide_eq_false c27
                                        clear c27
                                        by_cases c28 : (rd (rd_L2 t271 x47_3) x55_4) ≥ (l0.length : Int)
                                        · rw [if_pos c28] at H
                                          have c28b0 : decide ((l0.length : Int) ≤ (rd (rd_L2 t271 x47_3) x55_4)) = true := decide_eq_true c28
                                          clear c28
                                          obtain rfl := Option.some.inj H
                                          have p278 : 0 ≤ (x47_3 : Int) := of_decide_eq_true (by first | (with_reducible assumption) | assumption)
                                          have q278 : x47_3 < (t271.length : Int) := of_decide_eq_true (by first | (with_reducible assumption) | assumption)
                                          obtain ⟨ad278, A278_0, c278_0, e278, hx278_0, hl278_0, hi278_0⟩ := at_L2 (Kd.S_reads' HO_3.out).2.2 x47_3 p278 q278
                                          obtain rfl : ad277 = ad278 := (by injection e278)
                                          obtain ⟨ce278, hce278, hMe278, hcc278⟩ := Kd.S_get HO_3.out [] x47_3 p278 (by first | exact q278 | exact of_decide_eq_true (by first | (with_reducible assumption) | assumption) | (have e_ := (Kd.S_reads' HO_3.out).1; omega))
                                          obtain ⟨ve278_0, rfl, ge278_0⟩ := hMe278
                                          have hv278_0 := hcc278 0 _ rfl
                                          rw [Nat.add_zero, show ((Kd.slice 3 (Kd.int .i64))).sz = 1 from rfl, Nat.mul_one] at hv278_0
                                          replace hv278_0 := Option.some.inj (hv278_0.symm.trans hx278_0)
                                          rw [hv278_0] at ge278_0
                                          have HL278_0 := Aside0.mk (show Kd.R (Kd.int .i64) 3 _ _ _ _ (rd_L2 t271 x47_3) from ge278_0)
                                          clear hv278_0 ge278_0
                                          clear hcc278 hce278
                                          have HR278_0 := Aside0.mk hi278_0
                                          have HC278_0 := Aside0.mk hl278_0
                                          clear hi278_0 hl278_0
                                          replace p278 := eq_true p278
                                          replace q278 := eq_true q278
                                          have p279 : 0 ≤ (x55_4 : Int) := of_decide_eq_true (by first | (with_reducible assumption) | assumption)
                                          have q279 : x55_4 < ((rd_L2 t271 x47_3).length : Int) := of_decide_eq_true (by first | (with_reducible assumption) | assumption)
                                          obtain ⟨ad279, e279, hx279_0⟩ := Kd.at_int (by repeat (first | (with_reducible exact HR278_0.out) | (with_reducible refine Kd.C_alloc ?_ _) | (with_reducible refine Kd.C_drewN ?_ _) | (with_reducible refine Kd.C_drew ?_) | exact HR278_0.out)) x55_4 p279 q279
                                          cases e279
                                          replace p279 := eq_true p279
                                          replace q279 := eq_true q279
                                          have p280 : 0 ≤ (x47_3 : Int) := of_decide_eq_true (by first | (with_reducible assumption) | assumption)
                                          have q280 : x47_3 < (t271.length : Int) := of_decide_eq_true (by first | (with_reducible assumption) | assumption)
                                          obtain ⟨ad280, A280_0, c280_0, e280, hx280_0, hl280_0, hi280_0⟩ := at_L2 (Kd.S_reads' HO_3.out).2.2 x47_3 p280 q280
                                          obtain rfl : ad277 = ad280 := (by injection e280)
                                          obtain ⟨ce280, hce280, hMe280, hcc280⟩ := Kd.S_get HO_3.out [] x47_3 p280 (by first | exact q280 | exact of_decide_eq_true (by first | (with_reducible assumption) | assumption) | (have e_ := (Kd.S_reads' HO_3.out).1; omega))
                                          obtain ⟨ve280_0, rfl, ge280_0⟩ := hMe280
                                          have hv280_0 := hcc280 0 _ rfl
                                          rw [Nat.add_zero, show ((Kd.slice 3 (Kd.int .i64))).sz = 1 from rfl, Nat.mul_one] at hv280_0
                                          replace hv280_0 := Option.some.inj (hv280_0.symm.trans hx280_0)
                                          rw [hv280_0] at ge280_0
                                          have HL280_0 := Aside0.mk (show Kd.R (Kd.int .i64) 3 _ _ _ _ (rd_L2 t271 x47_3) from ge280_0)
                                          clear hv280_0 ge280_0
                                          clear hcc280 hce280
                                          have HR280_0 := Aside0.mk hi280_0
                                          have HC280_0 := Aside0.mk hl280_0
                                          clear hi280_0 hl280_0
                                          replace p280 := eq_true p280
                                          replace q280 := eq_true q280
                                          have ea_ := Option.some.inj (hx278_0.symm.trans hx280_0)
                                          injection ea_ with ea_ en_ ec_
                                          subst ea_
                                          subst ec_
                                          clear en_
                                          have p281 : 0 ≤ (x55_4 : Int) := of_decide_eq_true (by first | (with_reducible assumption) | assumption)
                                          have q281 : x55_4 < ((rd_L2 t271 x47_3).length : Int) := of_decide_eq_true (by first | (with_reducible assumption) | assumption)
                                          obtain ⟨ad281, e281, hx281_0⟩ := Kd.at_int (by repeat (first | (with_reducible exact HR280_0.out) | (with_reducible refine Kd.C_alloc ?_ _) | (with_reducible refine Kd.C_drewN ?_ _) | (with_reducible refine Kd.C_drew ?_) | exact HR280_0.out)) x55_4 p281 q281
                                          cases e281
                                          replace p281 := eq_true p281
                                          replace q281 := eq_true q281
                                          go_wp2
                                          repeat (go_quiet (fail); try go_wp2)
                                          go_ret
                                          exact ⟨by first | rfl | (simp [errW_none, errW_some] <;> rfl) | (simp [*, errW_none, errW_some] <;> rfl), by repeat (first | (with_reducible first | exact HB.out | apply below_alloc | apply pw_below_drewN | apply below_drew1) | exact HB.out)⟩
                                        · rw [if_neg c28] at H
                                          have c28b0 : decide ((l0.length : Int) ≤ (rd (rd_L2 t271 x47_3) x55_4)) = false := decide_eq_false c28
                                          clear c28
                                          by_cases c29 : 0 ≤ (rd (rd_L2 t271 x47_3) x55_4)
                                          · rw [if_pos c29] at H
                                            have c29b0 : decide (0 ≤ (rd (rd_L2 t271 x47_3) x55_4)) = true := decide_eq_true c29
                                            clear c29
                                            by_cases c30 : (rd (rd_L2 t271 x47_3) x55_4) < (l0.length : Int)
                                            · rw [if_pos c30] at H
                                              have c30b0 : decide ((rd (rd_L2 t271 x47_3) x55_4) < (l0.length : Int)) = true := decide_eq_true c30
                                              clear c30
                                              by_cases c31 : (rd l0 (rd (rd_L2 t271 x47_3) x55_4)) = x47_3
                                              · rw [if_pos c31] at H
                                                have c31b0 : ((rd l0 (rd (rd_L2 t271 x47_3) x55_4)) == x47_3) = true := beq_iff_eq.mpr c31
                                                have c31b1 : ((rd l0 (rd (rd_L2 t271 x47_3) x55_4)) != x47_3) = false := bne_eq_false_iff_eq.mpr c31
                                                clear c31
                                                by_cases c32 : x55_4 > 0
                                                · rw [if_pos c32] at H
                                                  have c32b0 : decide (0 < x55_4) = true := decide_eq_true c32
                                                  clear c32
                                                  obtain ⟨ji33, hji33⟩ : ∃ j_ : Int, (wrap64 (x55_4 - 1)) = j_ := ⟨_, rfl⟩
                                                  replace H : (if 0 ≤ (ji33) then (if (ji33) < ((rd_L2 t271 x47_3).length : Int) then (if (rd (rd_L2 t271 x47_3) x55_4) ≤ (rd (rd_L2 t271 x47_3) (ji33)) then (some false) else (antecedentlaw12_CompsLists.l2 k4 l0 t271 (wrap64 (x4_4 - 1)) x5_2 x47_3 (t271.length : Int) x47_3 ((rd_L2 t271 x47_3).length : Int) (wrap64 (x55_4 + 1)))) else (none)) else (none)) = some r := by first | (rw [hji33] at H; exact H) | (simp only [hji33] at H ⊢; exact H)
                                                  have hji33w : (IntKind.i64.wrap (x55_4 - 1)) = ji33 := (i64_w _).trans hji33
                                                  by_cases c34 : 0 ≤ (ji33)
                                                  · rw [if_pos c34] at H
                                                    have c34b0 : decide (0 ≤ (ji33)) = true := decide_eq_true c34
                                                    clear c34
                                                    by_cases c35 : (ji33) < ((rd_L2 t271 x47_3).length : Int)
                                                    · rw [if_pos c35] at H
                                                      have c35b0 : decide ((ji33) < ((rd_L2 t271 x47_3).length : Int)) = true := decide_eq_true c35
                                                      clear c35
                                                      by_cases c36 : (rd (rd_L2 t271 x47_3) x55_4) ≤ (rd (rd_L2 t271 x47_3) (ji33))
                                                      · rw [if_pos c36] at H
                                                        have c36b0 : decide ((rd (rd_L2 t271 x47_3) x55_4) ≤ (rd (rd_L2 t271 x47_3) (ji33))) = true := decide_eq_true c36
                                                        clear c36
                                                        obtain rfl := Option.some.inj H
                                                        have p278 : 0 ≤ (x47_3 : Int) := of_decide_eq_true (by first | (with_reducible assumption) | assumption)
                                                        have q278 : x47_3 < (t271.length : Int) := of_decide_eq_true (by first | (with_reducible assumption) | assumption)
                                                        obtain ⟨ad278, A278_0, c278_0, e278, hx278_0, hl278_0, hi278_0⟩ := at_L2 (Kd.S_reads' HO_3.out).2.2 x47_3 p278 q278
                                                        obtain rfl : ad277 = ad278 := (by injection e278)
                                                        obtain ⟨ce278, hce278, hMe278, hcc278⟩ := Kd.S_get HO_3.out [] x47_3 p278 (by first | exact q278 | exact of_decide_eq_true (by first | (with_reducible assumption) | assumption) | (have e_ := (Kd.S_reads' HO_3.out).1; omega))
                                                        obtain ⟨ve278_0, rfl, ge278_0⟩ := hMe278
                                                        have hv278_0 := hcc278 0 _ rfl
                                                        rw [Nat.add_zero, show ((Kd.slice 3 (Kd.int .i64))).sz = 1 from rfl, Nat.mul_one] at hv278_0
                                                        replace hv278_0 := Option.some.inj (hv278_0.symm.trans hx278_0)
                                                        rw [hv278_0] at ge278_0
                                                        have HL278_0 := Aside0.mk (show Kd.R (Kd.int .i64) 3 _ _ _ _ (rd_L2 t271 x47_3) from ge278_0)
                                                        clear hv278_0 ge278_0
                                                        clear hcc278 hce278
                                                        have HR278_0 := Aside0.mk hi278_0
                                                        have HC278_0 := Aside0.mk hl278_0
                                                        clear hi278_0 hl278_0
                                                        replace p278 := eq_true p278
                                                        replace q278 := eq_true q278
                                                        have p279 : 0 ≤ (x55_4 : Int) := of_decide_eq_true (by first | (with_reducible assumption) | assumption)
                                                        have q279 : x55_4 < ((rd_L2 t271 x47_3).length : Int) := of_decide_eq_true (by first | (with_reducible assumption) | assumption)
                                                        obtain ⟨ad279, e279, hx279_0⟩ := Kd.at_int (by repeat (first | (with_reducible exact HR278_0.out) | (with_reducible refine Kd.C_alloc ?_ _) | (with_reducible refine Kd.C_drewN ?_ _) | (with_reducible refine Kd.C_drew ?_) | exact HR278_0.out)) x55_4 p279 q279
                                                        cases e279
                                                        replace p279 := eq_true p279
                                                        replace q279 := eq_true q279
                                                        have p280 : 0 ≤ (x47_3 : Int) := of_decide_eq_true (by first | (with_reducible assumption) | assumption)
                                                        have q280 : x47_3 < (t271.length : Int) := of_decide_eq_true (by first | (with_reducible assumption) | assumption)
                                                        obtain ⟨ad280, A280_0, c280_0, e280, hx280_0, hl280_0, hi280_0⟩ := at_L2 (Kd.S_reads' HO_3.out).2.2 x47_3 p280 q280
                                                        obtain rfl : ad277 = ad280 := (by injection e280)
                                                        obtain ⟨ce280, hce280, hMe280, hcc280⟩ := Kd.S_get HO_3.out [] x47_3 p280 (by first | exact q280 | exact of_decide_eq_true (by first | (with_reducible assumption) | assumption) | (have e_ := (Kd.S_reads' HO_3.out).1; omega))
                                                        obtain ⟨ve280_0, rfl, ge280_0⟩ := hMe280
                                                        have hv280_0 := hcc280 0 _ rfl
                                                        rw [Nat.add_zero, show ((Kd.slice 3 (Kd.int .i64))).sz = 1 from rfl, Nat.mul_one] at hv280_0
                                                        replace hv280_0 := Option.some.inj (hv280_0.symm.trans hx280_0)
                                                        rw [hv280_0] at ge280_0
                                                        have HL280_0 := Aside0.mk (show Kd.R (Kd.int .i64) 3 _ _ _ _ (rd_L2 t271 x47_3) from ge280_0)
                                                        clear hv280_0 ge280_0
                                                        clear hcc280 hce280
                                                        have HR280_0 := Aside0.mk hi280_0
                                                        have HC280_0 := Aside0.mk hl280_0
                                                        clear hi280_0 hl280_0
                                                        replace p280 := eq_true p280
                                                        replace q280 := eq_true q280
                                                        have ea_ := Option.some.inj (hx278_0.symm.trans hx280_0)
                                                        injection ea_ with ea_ en_ ec_
                                                        subst ea_
                                                        subst ec_
                                                        clear en_
                                                        have p281 : 0 ≤ (x55_4 : Int) := of_decide_eq_true (by first | (with_reducible assumption) | assumption)
                                                        have q281 : x55_4 < ((rd_L2 t271 x47_3).length : Int) := of_decide_eq_true (by first | (with_reducible assumption) | assumption)
                                                        obtain ⟨ad281, e281, hx281_0⟩ := Kd.at_int (by repeat (first | (with_reducible exact HR280_0.out) | (with_reducible refine Kd.C_alloc ?_ _) | (with_reducible refine Kd.C_drewN ?_ _) | (with_reducible refine Kd.C_drew ?_) | exact HR280_0.out)) x55_4 p281 q281
                                                        cases e281
                                                        replace p281 := eq_true p281
                                                        replace q281 := eq_true q281
                                                        have p282 : 0 ≤ (x47_3 : Int) := of_decide_eq_true (by first | (with_reducible assumption) | assumption)
                                                        have q282 : x47_3 < (t271.length : Int) := of_decide_eq_true (by first | (with_reducible assumption) | assumption)
                                                        obtain ⟨ad282, A282_0, c282_0, e282, hx282_0, hl282_0, hi282_0⟩ := at_L2 (Kd.S_reads' HO_3.out).2.2 x47_3 p282 q282
                                                        obtain rfl : ad277 = ad282 := (by injection e282)
                                                        obtain ⟨ce282, hce282, hMe282, hcc282⟩ := Kd.S_get HO_3.out [] x47_3 p282 (by first | exact q282 | exact of_decide_eq_true (by first | (with_reducible assumption) | assumption) | (have e_ := (Kd.S_reads' HO_3.out).1; omega))
                                                        obtain ⟨ve282_0, rfl, ge282_0⟩ := hMe282
                                                        have hv282_0 := hcc282 0 _ rfl
                                                        rw [Nat.add_zero, show ((Kd.slice 3 (Kd.int .i64))).sz = 1 from rfl, Nat.mul_one] at hv282_0
                                                        replace hv282_0 := Option.some.inj (hv282_0.symm.trans hx282_0)
                                                        rw [hv282_0] at ge282_0
                                                        have HL282_0 := Aside0.mk (show Kd.R (Kd.int .i64) 3 _ _ _ _ (rd_L2 t271 x47_3) from ge282_0)
                                                        clear hv282_0 ge282_0
                                                        clear hcc282 hce282
                                                        have HR282_0 := Aside0.mk hi282_0
                                                        have HC282_0 := Aside0.mk hl282_0
                                                        clear hi282_0 hl282_0
                                                        replace p282 := eq_true p282
                                                        replace q282 := eq_true q282
                                                        have ea_ := Option.some.inj (hx278_0.symm.trans hx282_0)
                                                        injection ea_ with ea_ en_ ec_
                                                        subst ea_
                                                        subst ec_
                                                        clear en_
                                                        have p283 : 0 ≤ (x55_4 : Int) := of_decide_eq_true (by first | (with_reducible assumption) | assumption)
                                                        have q283 : x55_4 < ((rd_L2 t271 x47_3).length : Int) := of_decide_eq_true (by first | (with_reducible assumption) | assumption)
                                                        obtain ⟨ad283, e283, hx283_0⟩ := Kd.at_int (by repeat (first | (with_reducible exact HR282_0.out) | (with_reducible refine Kd.C_alloc ?_ _) | (with_reducible refine Kd.C_drewN ?_ _) | (with_reducible refine Kd.C_drew ?_) | exact HR282_0.out)) x55_4 p283 q283
                                                        cases e283
                                                        replace p283 := eq_true p283
                                                        replace q283 := eq_true q283
                                                        have p284 : 0 ≤ ((rd (rd_L2 t271 x47_3) x55_4) : Int) := of_decide_eq_true (by first | (with_reducible assumption) | assumption)
                                                        have q284 : (rd (rd_L2 t271 x47_3) x55_4) < (l0.length : Int) := of_decide_eq_true (by first | (with_reducible assumption) | assumption)
                                                        obtain ⟨ad284, e284, hx284_0⟩ := Kd.at_int HR0.out (rd (rd_L2 t271 x47_3) x55_4) p284 q284
                                                        cases e284
                                                        replace hx284_0 := (HB.out.cell (World.block_lt_of_cell? w _ hx284_0)).trans hx284_0
                                                        replace p284 := eq_true p284
                                                        replace q284 := eq_true q284
                                                        have p285 : 0 ≤ (x47_3 : Int) := of_decide_eq_true (by first | (with_reducible assumption) | assumption)
                                                        have q285 : x47_3 < (t271.length : Int) := of_decide_eq_true (by first | (with_reducible assumption) | assumption)
                                                        obtain ⟨ad285, A285_0, c285_0, e285, hx285_0, hl285_0, hi285_0⟩ := at_L2 (Kd.S_reads' HO_3.out).2.2 x47_3 p285 q285
                                                        obtain rfl : ad277 = ad285 := (by injection e285)
                                                        obtain ⟨ce285, hce285, hMe285, hcc285⟩ := Kd.S_get HO_3.out [] x47_3 p285 (by first | exact q285 | exact of_decide_eq_true (by first | (with_reducible assumption) | assumption) | (have e_ := (Kd.S_reads' HO_3.out).1; omega))
                                                        obtain ⟨ve285_0, rfl, ge285_0⟩ := hMe285
                                                        have hv285_0 := hcc285 0 _ rfl
                                                        rw [Nat.add_zero, show ((Kd.slice 3 (Kd.int .i64))).sz = 1 from rfl, Nat.mul_one] at hv285_0
                                                        replace hv285_0 := Option.some.inj (hv285_0.symm.trans hx285_0)
                                                        rw [hv285_0] at ge285_0
                                                        have HL285_0 := Aside0.mk (show Kd.R (Kd.int .i64) 3 _ _ _ _ (rd_L2 t271 x47_3) from ge285_0)
                                                        clear hv285_0 ge285_0
                                                        clear hcc285 hce285
                                                        have HR285_0 := Aside0.mk hi285_0
                                                        have HC285_0 := Aside0.mk hl285_0
                                                        clear hi285_0 hl285_0
                                                        replace p285 := eq_true p285
                                                        replace q285 := eq_true q285
                                                        have ea_ := Option.some.inj (hx278_0.symm.trans hx285_0)
                                                        injection ea_ with ea_ en_ ec_
                                                        subst ea_
                                                        subst ec_
                                                        clear en_
                                                        have p286 : 0 ≤ (x55_4 : Int) := of_decide_eq_true (by first | (with_reducible assumption) | assumption)
                                                        have q286 : x55_4 < ((rd_L2 t271 x47_3).length : Int) := of_decide_eq_true (by first | (with_reducible assumption) | assumption)
                                                        obtain ⟨ad286, e286, hx286_0⟩ := Kd.at_int (by repeat (first | (with_reducible exact HR285_0.out) | (with_reducible refine Kd.C_alloc ?_ _) | (with_reducible refine Kd.C_drewN ?_ _) | (with_reducible refine Kd.C_drew ?_) | exact HR285_0.out)) x55_4 p286 q286
                                                        cases e286
                                                        replace p286 := eq_true p286
                                                        replace q286 := eq_true q286
                                                        have p287 : 0 ≤ (x47_3 : Int) := of_decide_eq_true (by first | (with_reducible assumption) | assumption)
                                                        have q287 : x47_3 < (t271.length : Int) := of_decide_eq_true (by first | (with_reducible assumption) | assumption)
                                                        obtain ⟨ad287, A287_0, c287_0, e287, hx287_0, hl287_0, hi287_0⟩ := at_L2 (Kd.S_reads' HO_3.out).2.2 x47_3 p287 q287
                                                        obtain rfl : ad277 = ad287 := (by injection e287)
                                                        obtain ⟨ce287, hce287, hMe287, hcc287⟩ := Kd.S_get HO_3.out [] x47_3 p287 (by first | exact q287 | exact of_decide_eq_true (by first | (with_reducible assumption) | assumption) | (have e_ := (Kd.S_reads' HO_3.out).1; omega))
                                                        obtain ⟨ve287_0, rfl, ge287_0⟩ := hMe287
                                                        have hv287_0 := hcc287 0 _ rfl
                                                        rw [Nat.add_zero, show ((Kd.slice 3 (Kd.int .i64))).sz = 1 from rfl, Nat.mul_one] at hv287_0
                                                        replace hv287_0 := Option.some.inj (hv287_0.symm.trans hx287_0)
                                                        rw [hv287_0] at ge287_0
                                                        have HL287_0 := Aside0.mk (show Kd.R (Kd.int .i64) 3 _ _ _ _ (rd_L2 t271 x47_3) from ge287_0)
                                                        clear hv287_0 ge287_0
                                                        clear hcc287 hce287
                                                        have HR287_0 := Aside0.mk hi287_0
                                                        have HC287_0 := Aside0.mk hl287_0
                                                        clear hi287_0 hl287_0
                                                        replace p287 := eq_true p287
                                                        replace q287 := eq_true q287
                                                        have ea_ := Option.some.inj (hx278_0.symm.trans hx287_0)
                                                        injection ea_ with ea_ en_ ec_
                                                        subst ea_
                                                        subst ec_
                                                        clear en_
                                                        have p288 : 0 ≤ ((ji33) : Int) := of_decide_eq_true (by first | (with_reducible assumption) | assumption)
                                                        have q288 : (ji33) < ((rd_L2 t271 x47_3).length : Int) := of_decide_eq_true (by first | (with_reducible assumption) | assumption)
                                                        obtain ⟨ad288, e288, hx288_0⟩ := Kd.at_int (by repeat (first | (with_reducible exact HR287_0.out) | (with_reducible refine Kd.C_alloc ?_ _) | (with_reducible refine Kd.C_drewN ?_ _) | (with_reducible refine Kd.C_drew ?_) | exact HR287_0.out)) (ji33) p288 q288
                                                        cases e288
                                                        replace p288 := eq_true p288
                                                        replace q288 := eq_true q288
                                                        go_wp2
                                                        repeat (go_quiet (fail); try go_wp2)
                                                        go_ret
                                                        exact ⟨by first | rfl | (simp [errW_none, errW_some] <;> rfl) | (simp only [← hji33]; first | rfl | (simp [errW_none, errW_some] <;> rfl)) | (simp [*, errW_none, errW_some] <;> rfl), by repeat (first | (with_reducible first | exact HB.out | apply below_alloc | apply pw_below_drewN | apply below_drew1) | exact HB.out)⟩
                                                      · rw [if_neg c36] at H
                                                        have c36b0 : decide ((rd (rd_L2 t271 x47_3) x55_4) ≤ (rd (rd_L2 t271 x47_3) (ji33))) = false := decide_eq_false c36
                                                        clear c36
                                                        have H' := Aside0.mk H
                                                        clear H
                                                        have p278 : 0 ≤ (x47_3 : Int) := of_decide_eq_true (by first | (with_reducible assumption) | assumption)
                                                        have q278 : x47_3 < (t271.length : Int) := of_decide_eq_true (by first | (with_reducible assumption) | assumption)
                                                        obtain ⟨ad278, A278_0, c278_0, e278, hx278_0, hl278_0, hi278_0⟩ := at_L2 (Kd.S_reads' HO_3.out).2.2 x47_3 p278 q278
                                                        obtain rfl : ad277 = ad278 := (by injection e278)
                                                        obtain ⟨ce278, hce278, hMe278, hcc278⟩ := Kd.S_get HO_3.out [] x47_3 p278 (by first | exact q278 | exact of_decide_eq_true (by first | (with_reducible assumption) | assumption) | (have e_ := (Kd.S_reads' HO_3.out).1; omega))
                                                        obtain ⟨ve278_0, rfl, ge278_0⟩ := hMe278
                                                        have hv278_0 := hcc278 0 _ rfl
                                                        rw [Nat.add_zero, show ((Kd.slice 3 (Kd.int .i64))).sz = 1 from rfl, Nat.mul_one] at hv278_0
                                                        replace hv278_0 := Option.some.inj (hv278_0.symm.trans hx278_0)
                                                        rw [hv278_0] at ge278_0
                                                        have HL278_0 := Aside0.mk (show Kd.R (Kd.int .i64) 3 _ _ _ _ (rd_L2 t271 x47_3) from ge278_0)
                                                        clear hv278_0 ge278_0
                                                        clear hcc278 hce278
                                                        have HR278_0 := Aside0.mk hi278_0
                                                        have HC278_0 := Aside0.mk hl278_0
                                                        clear hi278_0 hl278_0
                                                        replace p278 := eq_true p278
                                                        replace q278 := eq_true q278
                                                        have p279 : 0 ≤ (x55_4 : Int) := of_decide_eq_true (by first | (with_reducible assumption) | assumption)
                                                        have q279 : x55_4 < ((rd_L2 t271 x47_3).length : Int) := of_decide_eq_true (by first | (with_reducible assumption) | assumption)
                                                        obtain ⟨ad279, e279, hx279_0⟩ := Kd.at_int (by repeat (first | (with_reducible exact HR278_0.out) | (with_reducible refine Kd.C_alloc ?_ _) | (with_reducible refine Kd.C_drewN ?_ _) | (with_reducible refine Kd.C_drew ?_) | exact HR278_0.out)) x55_4 p279 q279
                                                        cases e279
                                                        replace p279 := eq_true p279
                                                        replace q279 := eq_true q279
                                                        have p280 : 0 ≤ (x47_3 : Int) := of_decide_eq_true (by first | (with_reducible assumption) | assumption)
                                                        have q280 : x47_3 < (t271.length : Int) := of_decide_eq_true (by first | (with_reducible assumption) | assumption)
                                                        obtain ⟨ad280, A280_0, c280_0, e280, hx280_0, hl280_0, hi280_0⟩ := at_L2 (Kd.S_reads' HO_3.out).2.2 x47_3 p280 q280
                                                        obtain rfl : ad277 = ad280 := (by injection e280)
                                                        obtain ⟨ce280, hce280, hMe280, hcc280⟩ := Kd.S_get HO_3.out [] x47_3 p280 (by first | exact q280 | exact of_decide_eq_true (by first | (with_reducible assumption) | assumption) | (have e_ := (Kd.S_reads' HO_3.out).1; omega))
                                                        obtain ⟨ve280_0, rfl, ge280_0⟩ := hMe280
                                                        have hv280_0 := hcc280 0 _ rfl
                                                        rw [Nat.add_zero, show ((Kd.slice 3 (Kd.int .i64))).sz = 1 from rfl, Nat.mul_one] at hv280_0
                                                        replace hv280_0 := Option.some.inj (hv280_0.symm.trans hx280_0)
                                                        rw [hv280_0] at ge280_0
                                                        have HL280_0 := Aside0.mk (show Kd.R (Kd.int .i64) 3 _ _ _ _ (rd_L2 t271 x47_3) from ge280_0)
                                                        clear hv280_0 ge280_0
                                                        clear hcc280 hce280
                                                        have HR280_0 := Aside0.mk hi280_0
                                                        have HC280_0 := Aside0.mk hl280_0
                                                        clear hi280_0 hl280_0
                                                        replace p280 := eq_true p280
                                                        replace q280 := eq_true q280
                                                        have ea_ := Option.some.inj (hx278_0.symm.trans hx280_0)
                                                        injection ea_ with ea_ en_ ec_
                                                        subst ea_
                                                        subst ec_
                                                        clear en_
                                                        have p281 : 0 ≤ (x55_4 : Int) := of_decide_eq_true (by first | (with_reducible assumption) | assumption)
                                                        have q281 : x55_4 < ((rd_L2 t271 x47_3).length : Int) := of_decide_eq_true (by first | (with_reducible assumption) | assumption)
                                                        obtain ⟨ad281, e281, hx281_0⟩ := Kd.at_int (by repeat (first | (with_reducible exact HR280_0.out) | (with_reducible refine Kd.C_alloc ?_ _) | (with_reducible refine Kd.C_drewN ?_ _) | (with_reducible refine Kd.C_drew ?_) | exact HR280_0.out)) x55_4 p281 q281
                                                        cases e281
                                                        replace p281 := eq_true p281
                                                        replace q281 := eq_true q281
                                                        have p282 : 0 ≤ (x47_3 : Int) := of_decide_eq_true (by first | (with_reducible assumption) | assumption)
                                                        have q282 : x47_3 < (t271.length : Int) := of_decide_eq_true (by first | (with_reducible assumption) | assumption)
                                                        obtain ⟨ad282, A282_0, c282_0, e282, hx282_0, hl282_0, hi282_0⟩ := at_L2 (Kd.S_reads' HO_3.out).2.2 x47_3 p282 q282
                                                        obtain rfl : ad277 = ad282 := (by injection e282)
                                                        obtain ⟨ce282, hce282, hMe282, hcc282⟩ := Kd.S_get HO_3.out [] x47_3 p282 (by first | exact q282 | exact of_decide_eq_true (by first | (with_reducible assumption) | assumption) | (have e_ := (Kd.S_reads' HO_3.out).1; omega))
                                                        obtain ⟨ve282_0, rfl, ge282_0⟩ := hMe282
                                                        have hv282_0 := hcc282 0 _ rfl
                                                        rw [Nat.add_zero, show ((Kd.slice 3 (Kd.int .i64))).sz = 1 from rfl, Nat.mul_one] at hv282_0
                                                        replace hv282_0 := Option.some.inj (hv282_0.symm.trans hx282_0)
                                                        rw [hv282_0] at ge282_0
                                                        have HL282_0 := Aside0.mk (show Kd.R (Kd.int .i64) 3 _ _ _ _ (rd_L2 t271 x47_3) from ge282_0)
                                                        clear hv282_0 ge282_0
                                                        clear hcc282 hce282
                                                        have HR282_0 := Aside0.mk hi282_0
                                                        have HC282_0 := Aside0.mk hl282_0
                                                        clear hi282_0 hl282_0
                                                        replace p282 := eq_true p282
                                                        replace q282 := eq_true q282
                                                        have ea_ := Option.some.inj (hx278_0.symm.trans hx282_0)
                                                        injection ea_ with ea_ en_ ec_
                                                        subst ea_
                                                        subst ec_
                                                        clear en_
                                                        have p283 : 0 ≤ (x55_4 : Int) := of_decide_eq_true (by first | (with_reducible assumption) | assumption)
                                                        have q283 : x55_4 < ((rd_L2 t271 x47_3).length : Int) := of_decide_eq_true (by first | (with_reducible assumption) | assumption)
                                                        obtain ⟨ad283, e283, hx283_0⟩ := Kd.at_int (by repeat (first | (with_reducible exact HR282_0.out) | (with_reducible refine Kd.C_alloc ?_ _) | (with_reducible refine Kd.C_drewN ?_ _) | (with_reducible refine Kd.C_drew ?_) | exact HR282_0.out)) x55_4 p283 q283
                                                        cases e283
                                                        replace p283 := eq_true p283
                                                        replace q283 := eq_true q283
                                                        have p284 : 0 ≤ ((rd (rd_L2 t271 x47_3) x55_4) : Int) := of_decide_eq_true (by first | (with_reducible assumption) | assumption)
                                                        have q284 : (rd (rd_L2 t271 x47_3) x55_4) < (l0.length : Int) := of_decide_eq_true (by first | (with_reducible assumption) | assumption)
                                                        obtain ⟨ad284, e284, hx284_0⟩ := Kd.at_int HR0.out (rd (rd_L2 t271 x47_3) x55_4) p284 q284
                                                        cases e284
                                                        replace hx284_0 := (HB.out.cell (World.block_lt_of_cell? w _ hx284_0)).trans hx284_0
                                                        replace p284 := eq_true p284
                                                        replace q284 := eq_true q284
                                                        have p285 : 0 ≤ (x47_3 : Int) := of_decide_eq_true (by first | (with_reducible assumption) | assumption)
                                                        have q285 : x47_3 < (t271.length : Int) := of_decide_eq_true (by first | (with_reducible assumption) | assumption)
                                                        obtain ⟨ad285, A285_0, c285_0, e285, hx285_0, hl285_0, hi285_0⟩ := at_L2 (Kd.S_reads' HO_3.out).2.2 x47_3 p285 q285
                                                        obtain rfl : ad277 = ad285 := (by injection e285)
                                                        obtain ⟨ce285, hce285, hMe285, hcc285⟩ := Kd.S_get HO_3.out [] x47_3 p285 (by first | exact q285 | exact of_decide_eq_true (by first | (with_reducible assumption) | assumption) | (have e_ := (Kd.S_reads' HO_3.out).1; omega))
                                                        obtain ⟨ve285_0, rfl, ge285_0⟩ := hMe285
                                                        have hv285_0 := hcc285 0 _ rfl
                                                        rw [Nat.add_zero, show ((Kd.slice 3 (Kd.int .i64))).sz = 1 from rfl, Nat.mul_one] at hv285_0
                                                        replace hv285_0 := Option.some.inj (hv285_0.symm.trans hx285_0)
                                                        rw [hv285_0] at ge285_0
                                                        have HL285_0 := Aside0.mk (show Kd.R (Kd.int .i64) 3 _ _ _ _ (rd_L2 t271 x47_3) from ge285_0)
                                                        clear hv285_0 ge285_0
                                                        clear hcc285 hce285
                                                        have HR285_0 := Aside0.mk hi285_0
                                                        have HC285_0 := Aside0.mk hl285_0
                                                        clear hi285_0 hl285_0
                                                        replace p285 := eq_true p285
                                                        replace q285 := eq_true q285
                                                        have ea_ := Option.some.inj (hx278_0.symm.trans hx285_0)
                                                        injection ea_ with ea_ en_ ec_
                                                        subst ea_
                                                        subst ec_
                                                        clear en_
                                                        have p286 : 0 ≤ (x55_4 : Int) := of_decide_eq_true (by first | (with_reducible assumption) | assumption)
                                                        have q286 : x55_4 < ((rd_L2 t271 x47_3).length : Int) := of_decide_eq_true (by first | (with_reducible assumption) | assumption)
                                                        obtain ⟨ad286, e286, hx286_0⟩ := Kd.at_int (by repeat (first | (with_reducible exact HR285_0.out) | (with_reducible refine Kd.C_alloc ?_ _) | (with_reducible refine Kd.C_drewN ?_ _) | (with_reducible refine Kd.C_drew ?_) | exact HR285_0.out)) x55_4 p286 q286
                                                        cases e286
                                                        replace p286 := eq_true p286
                                                        replace q286 := eq_true q286
                                                        have p287 : 0 ≤ (x47_3 : Int) := of_decide_eq_true (by first | (with_reducible assumption) | assumption)
                                                        have q287 : x47_3 < (t271.length : Int) := of_decide_eq_true (by first | (with_reducible assumption) | assumption)
                                                        obtain ⟨ad287, A287_0, c287_0, e287, hx287_0, hl287_0, hi287_0⟩ := at_L2 (Kd.S_reads' HO_3.out).2.2 x47_3 p287 q287
                                                        obtain rfl : ad277 = ad287 := (by injection e287)
                                                        obtain ⟨ce287, hce287, hMe287, hcc287⟩ := Kd.S_get HO_3.out [] x47_3 p287 (by first | exact q287 | exact of_decide_eq_true (by first | (with_reducible assumption) | assumption) | (have e_ := (Kd.S_reads' HO_3.out).1; omega))
                                                        obtain ⟨ve287_0, rfl, ge287_0⟩ := hMe287
                                                        have hv287_0 := hcc287 0 _ rfl
                                                        rw [Nat.add_zero, show ((Kd.slice 3 (Kd.int .i64))).sz = 1 from rfl, Nat.mul_one] at hv287_0
                                                        replace hv287_0 := Option.some.inj (hv287_0.symm.trans hx287_0)
                                                        rw [hv287_0] at ge287_0
                                                        have HL287_0 := Aside0.mk (show Kd.R (Kd.int .i64) 3 _ _ _ _ (rd_L2 t271 x47_3) from ge287_0)
                                                        clear hv287_0 ge287_0
                                                        clear hcc287 hce287
                                                        have HR287_0 := Aside0.mk hi287_0
                                                        have HC287_0 := Aside0.mk hl287_0
                                                        clear hi287_0 hl287_0
                                                        replace p287 := eq_true p287
                                                        replace q287 := eq_true q287
                                                        have ea_ := Option.some.inj (hx278_0.symm.trans hx287_0)
                                                        injection ea_ with ea_ en_ ec_
                                                        subst ea_
                                                        subst ec_
                                                        clear en_
                                                        have p288 : 0 ≤ ((ji33) : Int) := of_decide_eq_true (by first | (with_reducible assumption) | assumption)
                                                        have q288 : (ji33) < ((rd_L2 t271 x47_3).length : Int) := of_decide_eq_true (by first | (with_reducible assumption) | assumption)
                                                        obtain ⟨ad288, e288, hx288_0⟩ := Kd.at_int (by repeat (first | (with_reducible exact HR287_0.out) | (with_reducible refine Kd.C_alloc ?_ _) | (with_reducible refine Kd.C_drewN ?_ _) | (with_reducible refine Kd.C_drew ?_) | exact HR287_0.out)) (ji33) p288 q288
                                                        cases e288
                                                        replace p288 := eq_true p288
                                                        replace q288 := eq_true q288
                                                        go_wp2
                                                        repeat (go_quiet (fail); try go_wp2)
                                                        go_roundg k4
                                                        case measure => have := HJ1.out; have := HK2.out; have := HK3.out; have := HK4.out; omega
                                                        case rel => exact ⟨(wrap64 (x4_4 - 1)), (wrap64 (x55_4 + 1)), (by first | rfl | (simp; done) | (simp [*]; done)), (by first | rfl | (simp; done) | (simp [*]; done)), H', ⟨by have := HJ1.out; have := HK2.out; have := HK3.out; have := HK4.out; omega⟩, ⟨by (with_reducible repeat (first | apply Kd.S_alloc | apply Kd.S_drewN | apply Kd.S_drew)); exact HO_3.out⟩, ⟨by repeat (first | (with_reducible exact HR277_0.out) | (with_reducible refine Kd.C_alloc ?_ _) | (with_reducible refine Kd.C_drewN ?_ _) | (with_reducible refine Kd.C_drew ?_) | exact HR277_0.out)⟩, ⟨by repeat (first | (with_reducible first | exact HB.out | apply below_alloc | apply pw_below_drewN | apply below_drew1) | exact HB.out)⟩⟩
                                                    · rw [if_neg c35] at H
                                                      exact absurd H (by simp)
                                                  · rw [if_neg c34] at H
                                                    exact absurd H (by simp)
                                                · rw [if_neg c32] at H
                                                  have c32b0 : decide (0 < x55_4) = false := decide_eq_false c32
                                                  clear c32
                                                  have H' := Aside0.mk H
                                                  clear H
                                                  have p278 : 0 ≤ (x47_3 : Int) := of_decide_eq_true (by first | (with_reducible assumption) | assumption)
                                                  have q278 : x47_3 < (t271.length : Int) := of_decide_eq_true (by first | (with_reducible assumption) | assumption)
                                                  obtain ⟨ad278, A278_0, c278_0, e278, hx278_0, hl278_0, hi278_0⟩ := at_L2 (Kd.S_reads' HO_3.out).2.2 x47_3 p278 q278
                                                  obtain rfl : ad277 = ad278 := (by injection e278)
                                                  obtain ⟨ce278, hce278, hMe278, hcc278⟩ := Kd.S_get HO_3.out [] x47_3 p278 (by first | exact q278 | exact of_decide_eq_true (by first | (with_reducible assumption) | assumption) | (have e_ := (Kd.S_reads' HO_3.out).1; omega))
                                                  obtain ⟨ve278_0, rfl, ge278_0⟩ := hMe278
                                                  have hv278_0 := hcc278 0 _ rfl
                                                  rw [Nat.add_zero, show ((Kd.slice 3 (Kd.int .i64))).sz = 1 from rfl, Nat.mul_one] at hv278_0
                                                  replace hv278_0 := Option.some.inj (hv278_0.symm.trans hx278_0)
                                                  rw [hv278_0] at ge278_0
                                                  have HL278_0 := Aside0.mk (show Kd.R (Kd.int .i64) 3 _ _ _ _ (rd_L2 t271 x47_3) from ge278_0)
                                                  clear hv278_0 ge278_0
                                                  clear hcc278 hce278
                                                  have HR278_0 := Aside0.mk hi278_0
                                                  have HC278_0 := Aside0.mk hl278_0
                                                  clear hi278_0 hl278_0
                                                  replace p278 := eq_true p278
                                                  replace q278 := eq_true q278
                                                  have p279 : 0 ≤ (x55_4 : Int) := of_decide_eq_true (by first | (with_reducible assumption) | assumption)
                                                  have q279 : x55_4 < ((rd_L2 t271 x47_3).length : Int) := of_decide_eq_true (by first | (with_reducible assumption) | assumption)
                                                  obtain ⟨ad279, e279, hx279_0⟩ := Kd.at_int (by repeat (first | (with_reducible exact HR278_0.out) | (with_reducible refine Kd.C_alloc ?_ _) | (with_reducible refine Kd.C_drewN ?_ _) | (with_reducible refine Kd.C_drew ?_) | exact HR278_0.out)) x55_4 p279 q279
                                                  cases e279
                                                  replace p279 := eq_true p279
                                                  replace q279 := eq_true q279
                                                  have p280 : 0 ≤ (x47_3 : Int) := of_decide_eq_true (by first | (with_reducible assumption) | assumption)
                                                  have q280 : x47_3 < (t271.length : Int) := of_decide_eq_true (by first | (with_reducible assumption) | assumption)
                                                  obtain ⟨ad280, A280_0, c280_0, e280, hx280_0, hl280_0, hi280_0⟩ := at_L2 (Kd.S_reads' HO_3.out).2.2 x47_3 p280 q280
                                                  obtain rfl : ad277 = ad280 := (by injection e280)
                                                  obtain ⟨ce280, hce280, hMe280, hcc280⟩ := Kd.S_get HO_3.out [] x47_3 p280 (by first | exact q280 | exact of_decide_eq_true (by first | (with_reducible assumption) | assumption) | (have e_ := (Kd.S_reads' HO_3.out).1; omega))
                                                  obtain ⟨ve280_0, rfl, ge280_0⟩ := hMe280
                                                  have hv280_0 := hcc280 0 _ rfl
                                                  rw [Nat.add_zero, show ((Kd.slice 3 (Kd.int .i64))).sz = 1 from rfl, Nat.mul_one] at hv280_0
                                                  replace hv280_0 := Option.some.inj (hv280_0.symm.trans hx280_0)
                                                  rw [hv280_0] at ge280_0
                                                  have HL280_0 := Aside0.mk (show Kd.R (Kd.int .i64) 3 _ _ _ _ (rd_L2 t271 x47_3) from ge280_0)
                                                  clear hv280_0 ge280_0
                                                  clear hcc280 hce280
                                                  have HR280_0 := Aside0.mk hi280_0
                                                  have HC280_0 := Aside0.mk hl280_0
                                                  clear hi280_0 hl280_0
                                                  replace p280 := eq_true p280
                                                  replace q280 := eq_true q280
                                                  have ea_ := Option.some.inj (hx278_0.symm.trans hx280_0)
                                                  injection ea_ with ea_ en_ ec_
                                                  subst ea_
                                                  subst ec_
                                                  clear en_
                                                  have p281 : 0 ≤ (x55_4 : Int) := of_decide_eq_true (by first | (with_reducible assumption) | assumption)
                                                  have q281 : x55_4 < ((rd_L2 t271 x47_3).length : Int) := of_decide_eq_true (by first | (with_reducible assumption) | assumption)
                                                  obtain ⟨ad281, e281, hx281_0⟩ := Kd.at_int (by repeat (first | (with_reducible exact HR280_0.out) | (with_reducible refine Kd.C_alloc ?_ _) | (with_reducible refine Kd.C_drewN ?_ _) | (with_reducible refine Kd.C_drew ?_) | exact HR280_0.out)) x55_4 p281 q281
                                                  cases e281
                                                  replace p281 := eq_true p281
                                                  replace q281 := eq_true q281
                                                  have p282 : 0 ≤ (x47_3 : Int) := of_decide_eq_true (by first | (with_reducible assumption) | assumption)
                                                  have q282 : x47_3 < (t271.length : Int) := of_decide_eq_true (by first | (with_reducible assumption) | assumption)
                                                  obtain ⟨ad282, A282_0, c282_0, e282, hx282_0, hl282_0, hi282_0⟩ := at_L2 (Kd.S_reads' HO_3.out).2.2 x47_3 p282 q282
                                                  obtain rfl : ad277 = ad282 := (by injection e282)
                                                  obtain ⟨ce282, hce282, hMe282, hcc282⟩ := Kd.S_get HO_3.out [] x47_3 p282 (by first | exact q282 | exact of_decide_eq_true (by first | (with_reducible assumption) | assumption) | (have e_ := (Kd.S_reads' HO_3.out).1; omega))
                                                  obtain ⟨ve282_0, rfl, ge282_0⟩ := hMe282
                                                  have hv282_0 := hcc282 0 _ rfl
                                                  rw [Nat.add_zero, show ((Kd.slice 3 (Kd.int .i64))).sz = 1 from rfl, Nat.mul_one] at hv282_0
                                                  replace hv282_0 := Option.some.inj (hv282_0.symm.trans hx282_0)
                                                  rw [hv282_0] at ge282_0
                                                  have HL282_0 := Aside0.mk (show Kd.R (Kd.int .i64) 3 _ _ _ _ (rd_L2 t271 x47_3) from ge282_0)
                                                  clear hv282_0 ge282_0
                                                  clear hcc282 hce282
                                                  have HR282_0 := Aside0.mk hi282_0
                                                  have HC282_0 := Aside0.mk hl282_0
                                                  clear hi282_0 hl282_0
                                                  replace p282 := eq_true p282
                                                  replace q282 := eq_true q282
                                                  have ea_ := Option.some.inj (hx278_0.symm.trans hx282_0)
                                                  injection ea_ with ea_ en_ ec_
                                                  subst ea_
                                                  subst ec_
                                                  clear en_
                                                  have p283 : 0 ≤ (x55_4 : Int) := of_decide_eq_true (by first | (with_reducible assumption) | assumption)
                                                  have q283 : x55_4 < ((rd_L2 t271 x47_3).length : Int) := of_decide_eq_true (by first | (with_reducible assumption) | assumption)
                                                  obtain ⟨ad283, e283, hx283_0⟩ := Kd.at_int (by repeat (first | (with_reducible exact HR282_0.out) | (with_reducible refine Kd.C_alloc ?_ _) | (with_reducible refine Kd.C_drewN ?_ _) | (with_reducible refine Kd.C_drew ?_) | exact HR282_0.out)) x55_4 p283 q283
                                                  cases e283
                                                  replace p283 := eq_true p283
                                                  replace q283 := eq_true q283
                                                  have p284 : 0 ≤ ((rd (rd_L2 t271 x47_3) x55_4) : Int) := of_decide_eq_true (by first | (with_reducible assumption) | assumption)
                                                  have q284 : (rd (rd_L2 t271 x47_3) x55_4) < (l0.length : Int) := of_decide_eq_true (by first | (with_reducible assumption) | assumption)
                                                  obtain ⟨ad284, e284, hx284_0⟩ := Kd.at_int HR0.out (rd (rd_L2 t271 x47_3) x55_4) p284 q284
                                                  cases e284
                                                  replace hx284_0 := (HB.out.cell (World.block_lt_of_cell? w _ hx284_0)).trans hx284_0
                                                  replace p284 := eq_true p284
                                                  replace q284 := eq_true q284
                                                  go_wp2
                                                  repeat (go_quiet (fail); try go_wp2)
                                                  go_roundg k4
                                                  case measure => have := HJ1.out; have := HK2.out; have := HK3.out; have := HK4.out; omega
                                                  case rel => exact ⟨(wrap64 (x4_4 - 1)), (wrap64 (x55_4 + 1)), (by first | rfl | (simp; done) | (simp [*]; done)), (by first | rfl | (simp; done) | (simp [*]; done)), H', ⟨by have := HJ1.out; have := HK2.out; have := HK3.out; have := HK4.out; omega⟩, ⟨by (with_reducible repeat (first | apply Kd.S_alloc | apply Kd.S_drewN | apply Kd.S_drew)); exact HO_3.out⟩, ⟨by repeat (first | (with_reducible exact HR277_0.out) | (with_reducible refine Kd.C_alloc ?_ _) | (with_reducible refine Kd.C_drewN ?_ _) | (with_reducible refine Kd.C_drew ?_) | exact HR277_0.out)⟩, ⟨by repeat (first | (with_reducible first | exact HB.out | apply below_alloc | apply pw_below_drewN | apply below_drew1) | exact HB.out)⟩⟩
                                              · rw [if_neg c31] at H
                                                have c31b0 : ((rd l0 (rd (rd_L2 t271 x47_3) x55_4)) == x47_3) = false := beq_eq_false_iff_ne.mpr c31
                                                have c31b1 : ((rd l0 (rd (rd_L2 t271 x47_3) x55_4)) != x47_3) = true := bne_iff_ne.mpr c31
                                                obtain rfl := Option.some.inj H
                                                have p278 : 0 ≤ (x47_3 : Int) := of_decide_eq_true (by first | (with_reducible assumption) | assumption)
                                                have q278 : x47_3 < (t271.length : Int) := of_decide_eq_true (by first | (with_reducible assumption) | assumption)
                                                obtain ⟨ad278, A278_0, c278_0, e278, hx278_0, hl278_0, hi278_0⟩ := at_L2 (Kd.S_reads' HO_3.out).2.2 x47_3 p278 q278
                                                obtain rfl : ad277 = ad278 := (by injection e278)
                                                obtain ⟨ce278, hce278, hMe278, hcc278⟩ := Kd.S_get HO_3.out [] x47_3 p278 (by first | exact q278 | exact of_decide_eq_true (by first | (with_reducible assumption) | assumption) | (have e_ := (Kd.S_reads' HO_3.out).1; omega))
                                                obtain ⟨ve278_0, rfl, ge278_0⟩ := hMe278
                                                have hv278_0 := hcc278 0 _ rfl
                                                rw [Nat.add_zero, show ((Kd.slice 3 (Kd.int .i64))).sz = 1 from rfl, Nat.mul_one] at hv278_0
                                                replace hv278_0 := Option.some.inj (hv278_0.symm.trans hx278_0)
                                                rw [hv278_0] at ge278_0
                                                have HL278_0 := Aside0.mk (show Kd.R (Kd.int .i64) 3 _ _ _ _ (rd_L2 t271 x47_3) from ge278_0)
                                                clear hv278_0 ge278_0
                                                clear hcc278 hce278
                                                have HR278_0 := Aside0.mk hi278_0
                                                have HC278_0 := Aside0.mk hl278_0
                                                clear hi278_0 hl278_0
                                                replace p278 := eq_true p278
                                                replace q278 := eq_true q278
                                                have p279 : 0 ≤ (x55_4 : Int) := of_decide_eq_true (by first | (with_reducible assumption) | assumption)
                                                have q279 : x55_4 < ((rd_L2 t271 x47_3).length : Int) := of_decide_eq_true (by first | (with_reducible assumption) | assumption)
                                                obtain ⟨ad279, e279, hx279_0⟩ := Kd.at_int (by repeat (first | (with_reducible exact HR278_0.out) | (with_reducible refine Kd.C_alloc ?_ _) | (with_reducible refine Kd.C_drewN ?_ _) | (with_reducible refine Kd.C_drew ?_) | exact HR278_0.out)) x55_4 p279 q279
                                                cases e279
                                                replace p279 := eq_true p279
                                                replace q279 := eq_true q279
                                                have p280 : 0 ≤ (x47_3 : Int) := of_decide_eq_true (by first | (with_reducible assumption) | assumption)
                                                have q280 : x47_3 < (t271.length : Int) := of_decide_eq_true (by first | (with_reducible assumption) | assumption)
                                                obtain ⟨ad280, A280_0, c280_0, e280, hx280_0, hl280_0, hi280_0⟩ := at_L2 (Kd.S_reads' HO_3.out).2.2 x47_3 p280 q280
                                                obtain rfl : ad277 = ad280 := (by injection e280)
                                                obtain ⟨ce280, hce280, hMe280, hcc280⟩ := Kd.S_get HO_3.out [] x47_3 p280 (by first | exact q280 | exact of_decide_eq_true (by first | (with_reducible assumption) | assumption) | (have e_ := (Kd.S_reads' HO_3.out).1; omega))
                                                obtain ⟨ve280_0, rfl, ge280_0⟩ := hMe280
                                                have hv280_0 := hcc280 0 _ rfl
                                                rw [Nat.add_zero, show ((Kd.slice 3 (Kd.int .i64))).sz = 1 from rfl, Nat.mul_one] at hv280_0
                                                replace hv280_0 := Option.some.inj (hv280_0.symm.trans hx280_0)
                                                rw [hv280_0] at ge280_0
                                                have HL280_0 := Aside0.mk (show Kd.R (Kd.int .i64) 3 _ _ _ _ (rd_L2 t271 x47_3) from ge280_0)
                                                clear hv280_0 ge280_0
                                                clear hcc280 hce280
                                                have HR280_0 := Aside0.mk hi280_0
                                                have HC280_0 := Aside0.mk hl280_0
                                                clear hi280_0 hl280_0
                                                replace p280 := eq_true p280
                                                replace q280 := eq_true q280
                                                have ea_ := Option.some.inj (hx278_0.symm.trans hx280_0)
                                                injection ea_ with ea_ en_ ec_
                                                subst ea_
                                                subst ec_
                                                clear en_
                                                have p281 : 0 ≤ (x55_4 : Int) := of_decide_eq_true (by first | (with_reducible assumption) | assumption)
                                                have q281 : x55_4 < ((rd_L2 t271 x47_3).length : Int) := of_decide_eq_true (by first | (with_reducible assumption) | assumption)
                                                obtain ⟨ad281, e281, hx281_0⟩ := Kd.at_int (by repeat (first | (with_reducible exact HR280_0.out) | (with_reducible refine Kd.C_alloc ?_ _) | (with_reducible refine Kd.C_drewN ?_ _) | (with_reducible refine Kd.C_drew ?_) | exact HR280_0.out)) x55_4 p281 q281
                                                cases e281
                                                replace p281 := eq_true p281
                                                replace q281 := eq_true q281
                                                have p282 : 0 ≤ (x47_3 : Int) := of_decide_eq_true (by first | (with_reducible assumption) | assumption)
                                                have q282 : x47_3 < (t271.length : Int) := of_decide_eq_true (by first | (with_reducible assumption) | assumption)
                                                obtain ⟨ad282, A282_0, c282_0, e282, hx282_0, hl282_0, hi282_0⟩ := at_L2 (Kd.S_reads' HO_3.out).2.2 x47_3 p282 q282
                                                obtain rfl : ad277 = ad282 := (by injection e282)
                                                obtain ⟨ce282, hce282, hMe282, hcc282⟩ := Kd.S_get HO_3.out [] x47_3 p282 (by first | exact q282 | exact of_decide_eq_true (by first | (with_reducible assumption) | assumption) | (have e_ := (Kd.S_reads' HO_3.out).1; omega))
                                                obtain ⟨ve282_0, rfl, ge282_0⟩ := hMe282
                                                have hv282_0 := hcc282 0 _ rfl
                                                rw [Nat.add_zero, show ((Kd.slice 3 (Kd.int .i64))).sz = 1 from rfl, Nat.mul_one] at hv282_0
                                                replace hv282_0 := Option.some.inj (hv282_0.symm.trans hx282_0)
                                                rw [hv282_0] at ge282_0
                                                have HL282_0 := Aside0.mk (show Kd.R (Kd.int .i64) 3 _ _ _ _ (rd_L2 t271 x47_3) from ge282_0)
                                                clear hv282_0 ge282_0
                                                clear hcc282 hce282
                                                have HR282_0 := Aside0.mk hi282_0
                                                have HC282_0 := Aside0.mk hl282_0
                                                clear hi282_0 hl282_0
                                                replace p282 := eq_true p282
                                                replace q282 := eq_true q282
                                                have ea_ := Option.some.inj (hx278_0.symm.trans hx282_0)
                                                injection ea_ with ea_ en_ ec_
                                                subst ea_
                                                subst ec_
                                                clear en_
                                                have p283 : 0 ≤ (x55_4 : Int) := of_decide_eq_true (by first | (with_reducible assumption) | assumption)
                                                have q283 : x55_4 < ((rd_L2 t271 x47_3).length : Int) := of_decide_eq_true (by first | (with_reducible assumption) | assumption)
                                                obtain ⟨ad283, e283, hx283_0⟩ := Kd.at_int (by repeat (first | (with_reducible exact HR282_0.out) | (with_reducible refine Kd.C_alloc ?_ _) | (with_reducible refine Kd.C_drewN ?_ _) | (with_reducible refine Kd.C_drew ?_) | exact HR282_0.out)) x55_4 p283 q283
                                                cases e283
                                                replace p283 := eq_true p283
                                                replace q283 := eq_true q283
                                                have p284 : 0 ≤ ((rd (rd_L2 t271 x47_3) x55_4) : Int) := of_decide_eq_true (by first | (with_reducible assumption) | assumption)
                                                have q284 : (rd (rd_L2 t271 x47_3) x55_4) < (l0.length : Int) := of_decide_eq_true (by first | (with_reducible assumption) | assumption)
                                                obtain ⟨ad284, e284, hx284_0⟩ := Kd.at_int HR0.out (rd (rd_L2 t271 x47_3) x55_4) p284 q284
                                                cases e284
                                                replace hx284_0 := (HB.out.cell (World.block_lt_of_cell? w _ hx284_0)).trans hx284_0
                                                replace p284 := eq_true p284
                                                replace q284 := eq_true q284
                                                go_wp2
                                                repeat (go_quiet (fail); try go_wp2)
                                                go_ret
                                                exact ⟨by first | rfl | (simp [errW_none, errW_some] <;> rfl) | (simp [*, errW_none, errW_some] <;> rfl), by repeat (first | (with_reducible first | exact HB.out | apply below_alloc | apply pw_below_drewN | apply below_drew1) | exact HB.out)⟩
                                            · rw [if_neg c30] at H
                                              exact absurd H (by simp)
                                          · rw [if_neg c29] at H
                                            exact absurd H (by simp)
                                    · rw [if_neg c26] at H
                                      exact absurd H (by simp)
                                  · rw [if_neg c25] at H
                                    exact absurd H (by simp)
                                · rw [if_neg c24] at H
                                  exact absurd H (by simp)
                              · rw [if_neg c23] at H
                                exact absurd H (by simp)
                            · rw [if_neg c22] at H
                              have c22b0 : decide (x55_4 < ((rd_L2 t271 x47_3).length : Int)) = false := decide_eq_false c22
                              clear c22
                              have H' := Aside0.mk H
                              clear H
                              go_wp2
                              repeat (go_quiet (fail); try go_wp2)
                              go_roundg k4
                              case measure => have := HJ1.out; have := HK2.out; have := HK3.out; have := HK4.out; omega
                              case rel => exact ⟨(x4_4), (wrap64 (x47_3 + 1)), (by first | rfl | (simp; done) | (simp [*]; done)), (by first | rfl | (simp; done) | (simp [*]; done)), H', ⟨by have := HJ1.out; have := HK2.out; have := HK3.out; have := HK4.out; omega⟩, ⟨by (with_reducible repeat (first | apply Kd.S_alloc | apply Kd.S_drewN | apply Kd.S_drew)); exact HO_3.out⟩, ⟨by repeat (first | (with_reducible first | exact HB.out | apply below_alloc | apply pw_below_drewN | apply below_drew1) | exact HB.out)⟩⟩
                      · rw [if_neg c21] at H
                        exact absurd H (by simp)
                    · rw [if_neg c20] at H
                      exact absurd H (by simp)
                  · rw [if_neg c19] at H
                    have c19b0 : decide (x47_3 < (t271.length : Int)) = false := decide_eq_false c19
                    clear c19
                    by_cases c37 : x4_3 = 0
                    · rw [if_pos c37] at H
                      have c37b0 : (x4_3 == 0) = true := beq_iff_eq.mpr c37
                      have c37b1 : (x4_3 != 0) = false := bne_eq_false_iff_eq.mpr c37
                      clear c37
                      obtain rfl := Option.some.inj H
                      go_wp2
                      repeat (go_quiet (fail); try go_wp2)
                      go_ret
                      exact ⟨by first | rfl | (simp [errW_none, errW_some] <;> rfl) | (simp [*, errW_none, errW_some] <;> rfl), by repeat (first | (with_reducible first | exact HB.out | apply below_alloc | apply pw_below_drewN | apply below_drew1) | exact HB.out)⟩
                    · rw [if_neg c37] at H
                      have c37b0 : (x4_3 == 0) = false := beq_eq_false_iff_ne.mpr c37
                      have c37b1 : (x4_3 != 0) = true := bne_iff_ne.mpr c37
                      obtain rfl := Option.some.inj H
                      go_wp2
                      repeat (go_quiet (fail); try go_wp2)
                      go_ret
                      exact ⟨by first | rfl | (simp [errW_none, errW_some] <;> rfl) | (simp [*, errW_none, errW_some] <;> rfl), by repeat (first | (with_reducible first | exact HB.out | apply below_alloc | apply pw_below_drewN | apply below_drew1) | exact HB.out)⟩

/-- THE ONE PURE STATEMENT of antecedentlaw12_CompsLists: yours. -/
def antecedentlaw12_CompsLists.Pure : Prop := ∀ (l0 : List Int), l0.length ≤ maxLen → l0.length * 8 ≤ 140737488351232 → (∀ x ∈ l0, (Lit.int .i64 x).wf = true) → ∃ k, antecedentlaw12_CompsLists.f k l0 = some true
theorem antecedentlaw12_CompsLists.walk (P : antecedentlaw12_CompsLists.Pure) (a0 : Option Addr) (len0 cap0 : Nat) (z0 : List Int) (w : World) (w0 : (a0 = none ∧ len0 = 0 ∧ cap0 = 0 ∧ z0 = []) ∨ ∃ x, a0 = some x ∧ len0 ≤ cap0 ∧ cap0 ≤ maxLen ∧ z0.length = cap0 ∧ (∀ i, i < z0.length → w.cell? (x.add i) = some (.int .i64 (z0.getD i 0))) ∧ ∀ n ∈ z0, (Lit.int .i64 n).wf = true) (y0 : len0 * 8 ≤ 140737488351232) :
    Calls Try.prog 5 #[.slice a0 len0 cap0] w fun e w' => e = .returned (.bool true) ∧ Below w.heap.size w w' := by
  obtain ⟨l0, rfl, hr0, hm0, hw0, hc0⟩ := ReadsInt.ofRowC w0
  obtain ⟨k, h⟩ := P l0 hm0 y0 hw0
  refine (antecedentlaw12_CompsLists.calls k _ _ l0 true w (Kd.C_of_reads (d := (0 : Int)) (h1 := fun _ => rfl) hr0) hc0 h).mono ?_
  rintro e w' ⟨rfl, hd⟩
  exact ⟨rfl, hd⟩

end Go.Proofs.Ytigpeemgnocdhaa.PZ
