/- Printed by a turned copy of the printer (wip/mkprint.py): Go functions as Lean functions, with a proof of each. -/
import Derived.Test.YtigpeemgnocdhaaPZx0
import Derived.Test.YtigpeemgnocdhaaPZx3
import Derived.Test.YtigpeemgnocdhaaPZx4
namespace Go.Proofs.Ytigpeemgnocdhaa.PZ
open Go.RowKit Go.Proofs.YtigpeemgnocdhaaW.PrintWords Go.Proofs.YtigpeemgnocdhaaW.PrintLast Go.Proofs.YtigpeemgnocdhaaW.PrintMore
attribute [local go_sem] max2_int min2_int max_two min_two max_three min_three max_four min_four   -- for this text's walks alone
set_option linter.unusedVariables false
set_option linter.unusedSimpArgs false

/-! ### antecedentref12_Comps: function 13 -/
mutual
def antecedentref12_Comps.l0 : Nat → Int → List (S31) → List (List Bool) → List Int → Int → Option (List Int)
  | 0, _, _, _, _, _ => none
  | k + 1, x0, x1, x5, x6, x7 => if x7 < x0 then ((antecedentref12_Reached.f k x0 x1 x7).bind fun t210 => (if x5.length < 5864062014805 then (if x6.length < 17592186044416 then (antecedentref12_Comps.l0 k x0 x1 (x5 ++ [t210]) (x6 ++ [(-1)]) (wrap64 (x7 + 1))) else (none)) else (none))) else (antecedentref12_Comps.l1 k x0 x5 x6 0 0)
def antecedentref12_Comps.l1 : Nat → Int → List (List Bool) → List Int → Int → Int → Option (List Int)
  | 0, _, _, _, _, _ => none
  | k + 1, x0, x5, x6, x8, x9 => if x9 < x0 then (antecedentref12_Comps.l2 k x0 x5 x6 x8 x9 (-1) 0) else (some x6)
def antecedentref12_Comps.l2 : Nat → Int → List (List Bool) → List Int → Int → Int → Int → Int → Option (List Int)
  | 0, _, _, _, _, _, _, _ => none
  | k + 1, x0, x5, x6, x8, x9, x10, x11 => if x11 < x0 then (antecedentref12_Comps.j3 k x0 x5 x6 x8 x9 x10 x11 (decide (x10 < 0))) else (antecedentref12_Comps.j3 k x0 x5 x6 x8 x9 x10 x11 false)
def antecedentref12_Comps.j3 : Nat → Int → List (List Bool) → List Int → Int → Int → Int → Int → Bool → Option (List Int)
  | 0, _, _, _, _, _, _, _, _ => none
  | k + 1, x0, x5, x6, x8, x9, x10, x11, x43 => if x43 = true then (if 0 ≤ x11 then (if x11 < (x6.length : Int) then (antecedentref12_Comps.l3 k x0 x5 x6 x8 x9 x10 x11 (decide ((rd x6 x11) < 0)) 0) else (none)) else (none)) else (antecedentref12_Comps.l4 k x0 x5 x6 x8 x9 x10 0)
def antecedentref12_Comps.l3 : Nat → Int → List (List Bool) → List Int → Int → Int → Int → Int → Bool → Int → Option (List Int)
  | 0, _, _, _, _, _, _, _, _, _ => none
  | k + 1, x0, x5, x6, x8, x9, x10, x11, x12, x13 => if x13 < x0 then (if x12 = true then (if 0 ≤ x11 then (if x11 < (x5.length : Int) then (if 0 ≤ x13 then (if x13 < ((rd_L5 x5 x11).length : Int) then (if (rdOf false (rd_L5 x5 x11) x13 = true) then (if x13 < (x5.length : Int) then (if x11 < ((rd_L5 x5 x13).length : Int) then (if rdOf false (rd_L5 x5 x13) x11 = true then (antecedentref12_Comps.l3 k x0 x5 x6 x8 x9 x10 x11 true (wrap64 (x13 + 1))) else (if x13 < (x6.length : Int) then (antecedentref12_Comps.l3 k x0 x5 x6 x8 x9 x10 x11 (decide ((rd x6 x13) ≥ 0)) (wrap64 (x13 + 1))) else (none))) else (none)) else (none)) else (antecedentref12_Comps.l3 k x0 x5 x6 x8 x9 x10 x11 true (wrap64 (x13 + 1)))) else (none)) else (none)) else (none)) else (none)) else (antecedentref12_Comps.l3 k x0 x5 x6 x8 x9 x10 x11 false (wrap64 (x13 + 1)))) else (if x12 = true then (antecedentref12_Comps.l2 k x0 x5 x6 x8 x9 x11 (wrap64 (x11 + 1))) else (antecedentref12_Comps.l2 k x0 x5 x6 x8 x9 x10 (wrap64 (x11 + 1))))
def antecedentref12_Comps.l4 : Nat → Int → List (List Bool) → List Int → Int → Int → Int → Int → Option (List Int)
  | 0, _, _, _, _, _, _, _ => none
  | k + 1, x0, x5, x6, x8, x9, x10, x14 => if x14 < x0 then (if 0 ≤ x10 then (if x10 < (x5.length : Int) then (if 0 ≤ x14 then (if x14 < ((rd_L5 x5 x10).length : Int) then (if rdOf false (rd_L5 x5 x10) x14 = true then (if x14 < (x5.length : Int) then (if x10 < ((rd_L5 x5 x14).length : Int) then (if rdOf false (rd_L5 x5 x14) x10 = true then (if x14 < (x6.length : Int) then (antecedentref12_Comps.l4 k x0 x5 (x6.set (x14 : Int).toNat x8) x8 (wrap64 (x9 + 1)) x10 (wrap64 (x14 + 1))) else (none)) else (antecedentref12_Comps.l4 k x0 x5 x6 x8 x9 x10 (wrap64 (x14 + 1)))) else (none)) else (none)) else (antecedentref12_Comps.l4 k x0 x5 x6 x8 x9 x10 (wrap64 (x14 + 1)))) else (none)) else (none)) else (none)) else (none)) else (antecedentref12_Comps.l1 k x0 x5 x6 (wrap64 (x8 + 1)) x9)
end
def antecedentref12_Comps.f (k : Nat) (a0 : Int) (l1 : List (S31)) : Option (List Int) := (antecedentref12_Held.f a0).bind fun t209 => (antecedentref12_Comps.l0 k t209 l1 ([] : List (List Bool)) ([] : List Int) 0)
theorem antecedentref12_Comps.mono_l : ∀ k, (∀ y0 y1 y2 y3 y4, LeO (antecedentref12_Comps.l0 k y0 y1 y2 y3 y4) (antecedentref12_Comps.l0 (k + 1) y0 y1 y2 y3 y4)) ∧ (∀ y0 y1 y2 y3 y4, LeO (antecedentref12_Comps.l1 k y0 y1 y2 y3 y4) (antecedentref12_Comps.l1 (k + 1) y0 y1 y2 y3 y4)) ∧ (∀ y0 y1 y2 y3 y4 y5 y6, LeO (antecedentref12_Comps.l2 k y0 y1 y2 y3 y4 y5 y6) (antecedentref12_Comps.l2 (k + 1) y0 y1 y2 y3 y4 y5 y6)) ∧ (∀ y0 y1 y2 y3 y4 y5 y6 y7, LeO (antecedentref12_Comps.j3 k y0 y1 y2 y3 y4 y5 y6 y7) (antecedentref12_Comps.j3 (k + 1) y0 y1 y2 y3 y4 y5 y6 y7)) ∧ (∀ y0 y1 y2 y3 y4 y5 y6 y7 y8, LeO (antecedentref12_Comps.l3 k y0 y1 y2 y3 y4 y5 y6 y7 y8) (antecedentref12_Comps.l3 (k + 1) y0 y1 y2 y3 y4 y5 y6 y7 y8)) ∧ (∀ y0 y1 y2 y3 y4 y5 y6, LeO (antecedentref12_Comps.l4 k y0 y1 y2 y3 y4 y5 y6) (antecedentref12_Comps.l4 (k + 1) y0 y1 y2 y3 y4 y5 y6))
  | 0 => ⟨fun _ _ _ _ _ r h => by simp [antecedentref12_Comps.l0] at h, fun _ _ _ _ _ r h => by simp [antecedentref12_Comps.l1] at h, fun _ _ _ _ _ _ _ r h => by simp [antecedentref12_Comps.l2] at h, fun _ _ _ _ _ _ _ _ r h => by simp [antecedentref12_Comps.j3] at h, fun _ _ _ _ _ _ _ _ _ r h => by simp [antecedentref12_Comps.l3] at h, fun _ _ _ _ _ _ _ r h => by simp [antecedentref12_Comps.l4] at h⟩
  | k + 1 => by
    obtain ⟨ih0, ih1, ih2, ih3, ih4, ih5⟩ := antecedentref12_Comps.mono_l k
    refine ⟨?_, ?_, ?_, ?_, ?_, ?_⟩
    · intro y0 y1 y2 y3 y4
      unfold antecedentref12_Comps.l0
      repeat' first
      | (with_reducible exact ih0 _ _ _ _ _)
      | (with_reducible exact ih1 _ _ _ _ _)
      | (with_reducible exact ih2 _ _ _ _ _ _ _)
      | (with_reducible exact ih3 _ _ _ _ _ _ _ _)
      | (with_reducible exact ih4 _ _ _ _ _ _ _ _ _)
      | (with_reducible exact ih5 _ _ _ _ _ _ _)
      | (with_reducible exact antecedentref12_Reached.mono _ _ _ _)
      | (with_reducible exact LeO.refl _)
      | (with_reducible exact LeO.none _)
      | (with_reducible refine LeO.ite ?_ ?_)
      | (with_reducible refine LeO.bind ?_ (fun _ => ?_))
      | exact ih0 _ _ _ _ _
      | exact ih1 _ _ _ _ _
      | exact ih2 _ _ _ _ _ _ _
      | exact ih3 _ _ _ _ _ _ _ _
      | exact ih4 _ _ _ _ _ _ _ _ _
      | exact ih5 _ _ _ _ _ _ _
      | exact antecedentref12_Reached.mono _ _ _ _
      | exact LeO.none _
      | refine LeO.ite ?_ ?_
      | refine LeO.bind ?_ (fun _ => ?_)
    · intro y0 y1 y2 y3 y4
      unfold antecedentref12_Comps.l1
      repeat' first
      | (with_reducible exact ih0 _ _ _ _ _)
      | (with_reducible exact ih1 _ _ _ _ _)
      | (with_reducible exact ih2 _ _ _ _ _ _ _)
      | (with_reducible exact ih3 _ _ _ _ _ _ _ _)
      | (with_reducible exact ih4 _ _ _ _ _ _ _ _ _)
      | (with_reducible exact ih5 _ _ _ _ _ _ _)
      | (with_reducible exact antecedentref12_Reached.mono _ _ _ _)
      | (with_reducible exact LeO.refl _)
      | (with_reducible exact LeO.none _)
      | (with_reducible refine LeO.ite ?_ ?_)
      | (with_reducible refine LeO.bind ?_ (fun _ => ?_))
      | exact ih0 _ _ _ _ _
      | exact ih1 _ _ _ _ _
      | exact ih2 _ _ _ _ _ _ _
      | exact ih3 _ _ _ _ _ _ _ _
      | exact ih4 _ _ _ _ _ _ _ _ _
      | exact ih5 _ _ _ _ _ _ _
      | exact antecedentref12_Reached.mono _ _ _ _
      | exact LeO.none _
      | refine LeO.ite ?_ ?_
      | refine LeO.bind ?_ (fun _ => ?_)
    · intro y0 y1 y2 y3 y4 y5 y6
      unfold antecedentref12_Comps.l2
      repeat' first
      | (with_reducible exact ih0 _ _ _ _ _)
      | (with_reducible exact ih1 _ _ _ _ _)
      | (with_reducible exact ih2 _ _ _ _ _ _ _)
      | (with_reducible exact ih3 _ _ _ _ _ _ _ _)
      | (with_reducible exact ih4 _ _ _ _ _ _ _ _ _)
      | (with_reducible exact ih5 _ _ _ _ _ _ _)
      | (with_reducible exact antecedentref12_Reached.mono _ _ _ _)
      | (with_reducible exact LeO.refl _)
      | (with_reducible exact LeO.none _)
      | (with_reducible refine LeO.ite ?_ ?_)
      | (with_reducible refine LeO.bind ?_ (fun _ => ?_))
      | exact ih0 _ _ _ _ _
      | exact ih1 _ _ _ _ _
      | exact ih2 _ _ _ _ _ _ _
      | exact ih3 _ _ _ _ _ _ _ _
      | exact ih4 _ _ _ _ _ _ _ _ _
      | exact ih5 _ _ _ _ _ _ _
      | exact antecedentref12_Reached.mono _ _ _ _
      | exact LeO.none _
      | refine LeO.ite ?_ ?_
      | refine LeO.bind ?_ (fun _ => ?_)
    · intro y0 y1 y2 y3 y4 y5 y6 y7
      unfold antecedentref12_Comps.j3
      repeat' first
      | (with_reducible exact ih0 _ _ _ _ _)
      | (with_reducible exact ih1 _ _ _ _ _)
      | (with_reducible exact ih2 _ _ _ _ _ _ _)
      | (with_reducible exact ih3 _ _ _ _ _ _ _ _)
      | (with_reducible exact ih4 _ _ _ _ _ _ _ _ _)
      | (with_reducible exact ih5 _ _ _ _ _ _ _)
      | (with_reducible exact antecedentref12_Reached.mono _ _ _ _)
      | (with_reducible exact LeO.refl _)
      | (with_reducible exact LeO.none _)
      | (with_reducible refine LeO.ite ?_ ?_)
      | (with_reducible refine LeO.bind ?_ (fun _ => ?_))
      | exact ih0 _ _ _ _ _
      | exact ih1 _ _ _ _ _
      | exact ih2 _ _ _ _ _ _ _
      | exact ih3 _ _ _ _ _ _ _ _
      | exact ih4 _ _ _ _ _ _ _ _ _
      | exact ih5 _ _ _ _ _ _ _
      | exact antecedentref12_Reached.mono _ _ _ _
      | exact LeO.none _
      | refine LeO.ite ?_ ?_
      | refine LeO.bind ?_ (fun _ => ?_)
    · intro y0 y1 y2 y3 y4 y5 y6 y7 y8
      unfold antecedentref12_Comps.l3
      repeat' first
      | (with_reducible exact ih0 _ _ _ _ _)
      | (with_reducible exact ih1 _ _ _ _ _)
      | (with_reducible exact ih2 _ _ _ _ _ _ _)
      | (with_reducible exact ih3 _ _ _ _ _ _ _ _)
      | (with_reducible exact ih4 _ _ _ _ _ _ _ _ _)
      | (with_reducible exact ih5 _ _ _ _ _ _ _)
      | (with_reducible exact antecedentref12_Reached.mono _ _ _ _)
      | (with_reducible exact LeO.refl _)
      | (with_reducible exact LeO.none _)
      | (with_reducible refine LeO.ite ?_ ?_)
      | (with_reducible refine LeO.bind ?_ (fun _ => ?_))
      | exact ih0 _ _ _ _ _
      | exact ih1 _ _ _ _ _
      | exact ih2 _ _ _ _ _ _ _
      | exact ih3 _ _ _ _ _ _ _ _
      | exact ih4 _ _ _ _ _ _ _ _ _
      | exact ih5 _ _ _ _ _ _ _
      | exact antecedentref12_Reached.mono _ _ _ _
      | exact LeO.none _
      | refine LeO.ite ?_ ?_
      | refine LeO.bind ?_ (fun _ => ?_)
    · intro y0 y1 y2 y3 y4 y5 y6
      unfold antecedentref12_Comps.l4
      repeat' first
      | (with_reducible exact ih0 _ _ _ _ _)
      | (with_reducible exact ih1 _ _ _ _ _)
      | (with_reducible exact ih2 _ _ _ _ _ _ _)
      | (with_reducible exact ih3 _ _ _ _ _ _ _ _)
      | (with_reducible exact ih4 _ _ _ _ _ _ _ _ _)
      | (with_reducible exact ih5 _ _ _ _ _ _ _)
      | (with_reducible exact antecedentref12_Reached.mono _ _ _ _)
      | (with_reducible exact LeO.refl _)
      | (with_reducible exact LeO.none _)
      | (with_reducible refine LeO.ite ?_ ?_)
      | (with_reducible refine LeO.bind ?_ (fun _ => ?_))
      | exact ih0 _ _ _ _ _
      | exact ih1 _ _ _ _ _
      | exact ih2 _ _ _ _ _ _ _
      | exact ih3 _ _ _ _ _ _ _ _
      | exact ih4 _ _ _ _ _ _ _ _ _
      | exact ih5 _ _ _ _ _ _ _
      | exact antecedentref12_Reached.mono _ _ _ _
      | exact LeO.none _
      | refine LeO.ite ?_ ?_
      | refine LeO.bind ?_ (fun _ => ?_)
theorem antecedentref12_Comps.mono : ∀ a0 a1 k, LeO (antecedentref12_Comps.f k a0 a1) (antecedentref12_Comps.f (k + 1) a0 a1) := by
  intro a0 a1 k
  obtain ⟨ih0, ih1, ih2, ih3, ih4, ih5⟩ := antecedentref12_Comps.mono_l k
  unfold antecedentref12_Comps.f
  repeat' first
      | (with_reducible exact ih0 _ _ _ _ _)
      | (with_reducible exact ih1 _ _ _ _ _)
      | (with_reducible exact ih2 _ _ _ _ _ _ _)
      | (with_reducible exact ih3 _ _ _ _ _ _ _ _)
      | (with_reducible exact ih4 _ _ _ _ _ _ _ _ _)
      | (with_reducible exact ih5 _ _ _ _ _ _ _)
      | (with_reducible exact antecedentref12_Reached.mono _ _ _ _)
      | (with_reducible exact LeO.refl _)
      | (with_reducible exact LeO.none _)
      | (with_reducible refine LeO.ite ?_ ?_)
      | (with_reducible refine LeO.bind ?_ (fun _ => ?_))
      | exact ih0 _ _ _ _ _
      | exact ih1 _ _ _ _ _
      | exact ih2 _ _ _ _ _ _ _
      | exact ih3 _ _ _ _ _ _ _ _
      | exact ih4 _ _ _ _ _ _ _ _ _
      | exact ih5 _ _ _ _ _ _ _
      | exact antecedentref12_Reached.mono _ _ _ _
      | exact LeO.none _
      | refine LeO.ite ?_ ?_
      | refine LeO.bind ?_ (fun _ => ?_)
set_option maxHeartbeats 8000000 in
set_option maxRecDepth 100000 in
theorem antecedentref12_Comps.calls (k : Nat) (a0 : Int) (A1 : Option Addr) (c1 : Nat) (l1 : List (S31)) (r : List Int) (w : World) (hr1 : Kd.C k31 w A1 l1.length l1) (hc1 : l1.length ≤ c1) (h : antecedentref12_Comps.f k a0 l1 = some r) :
    Calls Try.prog 13 #[.int .i64 a0, .slice A1 l1.length c1] w fun e w' => ∃ v0_ : Value, e = .returned (v0_) ∧ Kd.R (Kd.int .i64) 3 w' w.heap.size (fun _ => True) v0_ r ∧ Below w.heap.size w w' := by
  have HR1 := Aside0.mk hr1
  have HC1 := Aside0.mk hc1
  clear hr1 hc1
  have HB := Aside0.mk (Below.refl w.heap.size w)
  have H : ((antecedentref12_Held.f a0).bind fun t209 => (antecedentref12_Comps.l0 k t209 l1 ([] : List (List Bool)) ([] : List Int) 0)) = some r := h
  clear h
  replace H := Option.bind_eq_some_iff.mp H
  obtain ⟨t209, A30, H⟩ := H
  replace H : (antecedentref12_Comps.l0 k t209 l1 ([] : List (List Bool)) ([] : List Int) 0) = some r := H
  have A3 := Aside0.mk A30
  clear A30
  have H' := Aside0.mk H
  clear H
  go_enter Try.func13, Try.ntmps13
  go_wp2_with (first | ((with_reducible refine gate_callee (f := 17) rfl ?_); refine goesL_ (some 16) rfl rfl Try.func17 (by kernel_rfl) rfl #[.int .i64 a0] rfl (by (try simp only [List.map_toArray, List.map_cons, List.map_nil]); first | done | rfl | (simp only [List.length_drop, List.length_take]; rfl)) ?_; (with_reducible refine (antecedentref12_Held.calls a0 t209 _ A3.out).mono ?_); rintro e w4 ⟨rfl, hb⟩; refine ⟨_, rfl, ?_⟩; have n0_ := Aside0.mk (below_step (by repeat (first | (with_reducible first | exact HB.out | apply below_alloc | apply pw_below_drewN | apply below_drew1) | exact HB.out)) hb); clear HB; have HB := n0_; clear n0_; (try clear hb); (try clear hb2); (try clear hk); (try clear hi)))
  go_wp2
  repeat (go_quiet (fail); try go_wp2)
  go_loopg [5, 6, 7] k (fun kq v5 v6 v7 w' => ∃ (x5_1 : List (List Bool)) (x6_1 : List Int) (x7_1 : Int), v7 = .int .i64 x7_1 ∧ Aside0 (antecedentref12_Comps.l0 kq t209 l1 x5_1 x6_1 x7_1 = some r) ∧ Aside0 (kq ≤ k) ∧ Aside0 (Kd.S (Kd.slice 4 Kd.bool) 24 w' w.heap.size (fun _ => True) v5 x5_1) ∧ Aside0 (Kd.R (Kd.int .i64) 3 w' w.heap.size (fun _ => True) v6 x6_1) ∧ Aside0 (Below w.heap.size w w'))
  case atStart => exact ⟨(([] : List (List Bool))), (([] : List Int)), (0), (by first | rfl | (simp; done) | (simp [*]; done)), H', ⟨Nat.le_refl _⟩, ⟨by first | exact Kd.S_nil _ _ _ _ _ | exact Kd.N_nil _ _ _ _ _ | exact Kd.V_nil _ _ _ _ _ | exact Kd.Q_nil _ _ _ _ _ | exact Kd.R_nil _ _ _ _ _⟩, ⟨by first | exact Kd.R_nil _ _ _ _ _ | exact Kd.N_nil _ _ _ _ _ | exact Kd.V_nil _ _ _ _ _ | exact Kd.Q_nil _ _ _ _ _ | exact Kd.S_nil _ _ _ _ _⟩, ⟨by repeat (first | (with_reducible first | exact HB.out | apply below_alloc | apply pw_below_drewN | apply below_drew1) | exact HB.out)⟩⟩
  case round =>
    clear H'
    try clear c1
    try clear p2
    obtain ⟨x5_1, x6_1, x7_1, rfl, HA, HK1, HO_5, HO_6, HB⟩ := hrel
    cases gk with
    | zero => exact absurd HA.out (by simp [antecedentref12_Comps.l0])
    | succ k1 =>
      have H := HA.out
      clear HA
      simp only [antecedentref12_Comps.l0] at H
      by_cases c5 : x7_1 < t209
      · rw [if_pos c5] at H
        have c5b0 : decide (x7_1 < t209) = true := decide_eq_true c5
        clear c5
        replace H := Option.bind_eq_some_iff.mp H
        obtain ⟨t210, A60, H⟩ := H
        replace H : (if x5_1.length < 5864062014805 then (if x6_1.length < 17592186044416 then (antecedentref12_Comps.l0 k1 t209 l1 (x5_1 ++ [t210]) (x6_1 ++ [(-1)]) (wrap64 (x7_1 + 1))) else (none)) else (none)) = some r := H
        have A6 := Aside0.mk A60
        clear A60
        by_cases c7 : x5_1.length < 5864062014805
        · rw [if_pos c7] at H
          have LMc7 := Aside0.mk c7
          clear c7
          obtain ⟨y213, hy213⟩ : ∃ y_ : List (List Bool), y_ = (x5_1 ++ [t210]) := ⟨_, rfl⟩
          replace H : (if x6_1.length < 17592186044416 then (antecedentref12_Comps.l0 k1 t209 l1 y213 (x6_1 ++ [(-1)]) (wrap64 (x7_1 + 1))) else (none)) = some r := by first | (rw [hy213]; with_reducible exact H) | (have H2_ := (Option.bind_some _ _).symm.trans H; rw [hy213]; with_reducible exact H2_) | (have H2_ := (Option.bind_some _ _).symm.trans H; with_reducible exact H2_) | with_reducible exact H | (rw [hy213]; exact H) | exact H
          have Ny213 := Aside0.mk hy213
          clear hy213
          by_cases c8 : x6_1.length < 17592186044416
          · rw [if_pos c8] at H
            have LMc8 := Aside0.mk c8
            clear c8
            obtain ⟨y216, hy216⟩ : ∃ y_ : List Int, y_ = (x6_1 ++ [(-1)]) := ⟨_, rfl⟩
            replace H : (antecedentref12_Comps.l0 k1 t209 l1 y213 y216 (wrap64 (x7_1 + 1))) = some r := by first | (rw [hy216]; with_reducible exact H) | (have H2_ := (Option.bind_some _ _).symm.trans H; rw [hy216]; with_reducible exact H2_) | (have H2_ := (Option.bind_some _ _).symm.trans H; with_reducible exact H2_) | with_reducible exact H | (rw [hy216]; exact H) | exact H
            have Ny216 := Aside0.mk hy216
            clear hy216
            have H' := Aside0.mk H
            clear H
            go_wp2_with (first | ((with_reducible refine gate_callee (f := 10) rfl ?_); refine goesL_ (some 26) rfl rfl Try.func10 (by kernel_rfl) rfl #[.int .i64 t209, .slice A1 l1.length c1, .int .i64 x7_1] rfl (by (try simp only [List.map_toArray, List.map_cons, List.map_nil]); first | done | rfl | (simp only [List.length_drop, List.length_take]; rfl)) ?_; (with_reducible refine (antecedentref12_Reached.calls k1 t209 _ _ l1 x7_1 t210 _ ?side1 ?side2 A6.out).mono ?_); (case side1 => repeat (first | exact (Kd.C_below HR1.out HB.out) | (with_reducible refine Kd.C_alloc ?_ _) | (with_reducible refine Kd.C_drewN ?_ _) | (with_reducible refine Kd.C_drew ?_))); (case side2 => exact HC1.out); rintro e w9 ⟨v211, rfl, ho0, hb⟩; refine ⟨_, rfl, ?_⟩; have n0_ := Aside0.mk (Kd.S_elder' (by (with_reducible repeat (first | apply Kd.S_alloc | apply Kd.S_drewN | apply Kd.S_drew)); exact HO_5.out) (Kd.R_base ho0) hb); have n1_ := Aside0.mk (Kd.R_below (by (with_reducible repeat (first | apply Kd.R_alloc | apply Kd.R_drewN | apply Kd.R_drew)); exact HO_6.out) hb); have n2_ := Aside0.mk (Kd.R_lower ho0 (below_size (by repeat (first | (with_reducible first | exact HB.out | apply below_alloc | apply pw_below_drewN | apply below_drew1) | exact HB.out)))); have n3_ := Aside0.mk (below_step (by repeat (first | (with_reducible first | exact HB.out | apply below_alloc | apply pw_below_drewN | apply below_drew1) | exact HB.out)) hb); clear HO_5; clear HO_6; clear HB; have HO_5 := n0_; have HO_6 := n1_; have HO212 := n2_; have HB := n3_; clear n0_ n1_ n2_ n3_; (try clear hb); (try clear hb2); (try clear hk); (try clear hi); (try clear ho0); obtain ⟨Ao11, co11, eo11⟩ := Kd.R_slice HO212.out; subst eo11) | ((with_reducible refine gate_builtin (b := .append) (xs := #[.tmp 22, .tmp 27]) rfl ?_); at_builtin; refine Kd.S_append (Kd.slice 4 Kd.bool) (w0 := w) w.heap.size rfl (.tmp 22) (.tmp 27) 44 24 (.slice none 0 0) 24 rfl Try.underlying44 info24 rfl (by decide) (by omega) u5 x5_1 t210 [.slice Ao11 t210.length co11] (fun _ => True) (fun k_ => some k_ = (.slice Ao11 t210.length co11 : Value).ownBlock) rfl rfl ?aP (fun k_ hk_ => ((Kd.R_mono (ok' := fun k_ => ((fun _ => True)) k_ ∧ some k_ ≠ (u5 : Value).ownBlock) (Kd.R_apart' (HO212.out) (Kd.S_typed HO_5.out) (by decide)) (fun k_ hk => ⟨trivial, hk.2⟩))).1 k_ hk_.symm) ?aF ?aO ?aB ?aS ?aL ?_; (case aP => exact Kd.M_row (Kd.R_mono (Kd.R_tight rfl (Kd.R_mono (ok' := fun k_ => ((fun _ => True)) k_ ∧ some k_ ≠ (u5 : Value).ownBlock) (Kd.R_apart' (HO212.out) (Kd.S_typed HO_5.out) (by decide)) (fun k_ hk => ⟨trivial, hk.2⟩))) (fun _ h_ => h_))); (case aB => exact (by repeat (first | (with_reducible first | exact HB.out | apply below_alloc | apply pw_below_drewN | apply below_drew1) | exact HB.out))); (case aF => exact (fun _ _ => trivial)); (case aO => exact (by (with_reducible repeat (first | apply Kd.S_alloc | apply Kd.S_drewN | apply Kd.S_drew)); exact Kd.S_mono HO_5.out (fun k_ hk => ⟨trivial, fun e_ => hk.2 e_⟩))); (case aS => exact (below_size (by repeat (first | (with_reducible first | exact HB.out | apply below_alloc | apply pw_below_drewN | apply below_drew1) | exact HB.out)))); (case aL => have := LMc7.out; omega); intro v214 w10 ho hb hg hat; rw [← Ny213.out] at ho; have n0_ := Aside0.mk (Kd.R_over' (by (with_reducible repeat (first | apply Kd.R_alloc | apply Kd.R_drewN | apply Kd.R_drew)); exact HO_6.out) (Kd.S_typed (by (with_reducible repeat (first | apply Kd.S_alloc | apply Kd.S_drewN | apply Kd.S_drew)); exact HO_5.out)) (by decide) hg); have n1_ := Aside0.mk (hb); have n2_ := Aside0.mk (ho); clear HO_6; clear HB; clear HO_5; clear HO212; have HO_6 := n0_; have HB := n1_; have HO215 := n2_; clear n0_ n1_ n2_; clear ho hb hg hat) | ((with_reducible refine gate_builtin (b := .append) (xs := #[.tmp 29, .tmp 30]) rfl ?_); at_builtin; refine Kd.R_append (Kd.int .i64) (w0 := w) w.heap.size rfl (.tmp 29) (.tmp 30) 26 3 (.int .i64 0) 8 rfl Try.underlying26 info3 rfl (by decide) (by omega) u6 x6_1 (-1) [.int .i64 (-1)] (fun _ => True) (fun _ => False) rfl rfl ?aP (fun _ hk => hk.elim) ?aF ?aO ?aB ?aS ?aL ?_; (case aP => exact rfl); (case aB => exact (by repeat (first | (with_reducible first | exact HB.out | apply below_alloc | apply pw_below_drewN | apply below_drew1) | exact HB.out))); (case aF => exact (fun _ _ => trivial)); (case aO => exact (by (with_reducible repeat (first | apply Kd.R_alloc | apply Kd.R_drewN | apply Kd.R_drew)); exact HO_6.out)); (case aS => exact (below_size (by repeat (first | (with_reducible first | exact HB.out | apply below_alloc | apply pw_below_drewN | apply below_drew1) | exact HB.out)))); (case aL => have := LMc8.out; omega); intro v217 w12 ho hb hg hat; rw [← Ny216.out] at ho; have n0_ := Aside0.mk (Kd.S_over' (by (with_reducible repeat (first | apply Kd.S_alloc | apply Kd.S_drewN | apply Kd.S_drew)); exact HO215.out) (Kd.R_typed (by (with_reducible repeat (first | apply Kd.R_alloc | apply Kd.R_drewN | apply Kd.R_drew)); exact HO_6.out)) (by decide) hg); have n1_ := Aside0.mk (hb); have n2_ := Aside0.mk (ho); clear HO215; clear HB; clear HO_6; have HO215 := n0_; have HB := n1_; have HO218 := n2_; clear n0_ n1_ n2_; clear ho hb hg hat))
            go_wp2
            repeat (go_quiet (fail); try go_wp2)
            go_roundg k1
            case measure => have := HK1.out; omega
            case rel => exact ⟨(y213), (y216), (wrap64 (x7_1 + 1)), (by first | rfl | (simp; done) | (simp [*]; done)), H', ⟨by have := HK1.out; omega⟩, ⟨by (with_reducible repeat (first | apply Kd.S_alloc | apply Kd.S_drewN | apply Kd.S_drew)); exact HO215.out⟩, ⟨by (with_reducible repeat (first | apply Kd.R_alloc | apply Kd.R_drewN | apply Kd.R_drew)); exact HO218.out⟩, ⟨by repeat (first | (with_reducible first | exact HB.out | apply below_alloc | apply pw_below_drewN | apply below_drew1) | exact HB.out)⟩⟩
          · rw [if_neg c8] at H
            exact absurd H (by simp)
        · rw [if_neg c7] at H
          exact absurd H (by simp)
      · rw [if_neg c5] at H
        have c5b0 : decide (x7_1 < t209) = false := decide_eq_false c5
        clear c5
        have H' := Aside0.mk H
        clear H
        go_wp2
        go_wp2
        repeat (go_quiet (fail); try go_wp2)
        go_loopg [8, 9] k1 (fun kq v8 v9 w' => ∃ (x6_2 : List Int) (x8_2 : Int) (x9_2 : Int), v8 = .int .i64 x8_2 ∧ v9 = .int .i64 x9_2 ∧ Aside0 (antecedentref12_Comps.l1 kq t209 x5_1 x6_2 x8_2 x9_2 = some r) ∧ Aside0 (kq ≤ k1) ∧ Aside0 (Kd.S (Kd.slice 4 Kd.bool) 24 w' w.heap.size (fun _ => True) u5 x5_1) ∧ Aside0 (Kd.R (Kd.int .i64) 3 w' w.heap.size (fun _ => True) u6 x6_2) ∧ Aside0 (Below w.heap.size w w'))
        case atStart => exact ⟨(x6_1), (0), (0), (by first | rfl | (simp; done) | (simp [*]; done)), (by first | rfl | (simp; done) | (simp [*]; done)), H', ⟨Nat.le_refl _⟩, ⟨by (with_reducible repeat (first | apply Kd.S_alloc | apply Kd.S_drewN | apply Kd.S_drew)); exact HO_5.out⟩, ⟨by (with_reducible repeat (first | apply Kd.R_alloc | apply Kd.R_drewN | apply Kd.R_drew)); exact HO_6.out⟩, ⟨by repeat (first | (with_reducible first | exact HB.out | apply below_alloc | apply pw_below_drewN | apply below_drew1) | exact HB.out)⟩⟩
        case round =>
          clear H'
          try clear c1
          try clear p2
          try clear c5
          try clear c5b0
          try clear p6
          try clear c7
          try clear c8
          try clear c10
          try clear p2
          obtain ⟨x6_2, x8_2, x9_2, rfl, rfl, HA, HK2, HO_5, HO_6, HB⟩ := hrel
          cases gk with
          | zero => exact absurd HA.out (by simp [antecedentref12_Comps.l1])
          | succ k2 =>
            have H := HA.out
            clear HA
            simp only [antecedentref12_Comps.l1] at H
            by_cases c13 : x9_2 < t209
            · rw [if_pos c13] at H
              have c13b0 : decide (x9_2 < t209) = true := decide_eq_true c13
              clear c13
              have H' := Aside0.mk H
              clear H
              go_wp2
              go_wp2
              repeat (go_quiet (fail); try go_wp2)
              go_loopg [10, 11] k2 (fun kq v10 v11 w' => ∃ (x10_3 : Int) (x11_3 : Int), v10 = .int .i64 x10_3 ∧ v11 = .int .i64 x11_3 ∧ Aside0 (antecedentref12_Comps.l2 kq t209 x5_1 x6_2 x8_2 x9_2 x10_3 x11_3 = some r) ∧ Aside0 (kq ≤ k2) ∧ Aside0 (Kd.S (Kd.slice 4 Kd.bool) 24 w' w.heap.size (fun _ => True) u5 x5_1) ∧ Aside0 (Kd.R (Kd.int .i64) 3 w' w.heap.size (fun _ => True) u6 x6_2) ∧ Aside0 (Below w.heap.size w w'))
              case atStart => exact ⟨((-1)), (0), (by first | rfl | (simp; done) | (simp [*]; done)), (by first | rfl | (simp; done) | (simp [*]; done)), H', ⟨Nat.le_refl _⟩, ⟨by (with_reducible repeat (first | apply Kd.S_alloc | apply Kd.S_drewN | apply Kd.S_drew)); exact HO_5.out⟩, ⟨by (with_reducible repeat (first | apply Kd.R_alloc | apply Kd.R_drewN | apply Kd.R_drew)); exact HO_6.out⟩, ⟨by repeat (first | (with_reducible first | exact HB.out | apply below_alloc | apply pw_below_drewN | apply below_drew1) | exact HB.out)⟩⟩
              case round =>
                clear H'
                try clear c1
                try clear p2
                try clear c5
                try clear c5b0
                try clear p6
                try clear c7
                try clear c8
                try clear c10
                try clear c13
                try clear c13b0
                try clear p2
                try clear p6
                obtain ⟨x10_3, x11_3, rfl, rfl, HA, HK3, HO_5, HO_6, HB⟩ := hrel
                cases gk with
                | zero => exact absurd HA.out (by simp [antecedentref12_Comps.l2])
                | succ k3 =>
                  have H := HA.out
                  clear HA
                  simp only [antecedentref12_Comps.l2] at H
                  have HC14 := Aside0.mk H
                  clear H
                  go_upto_region 15 with (fail)
                  go_cut [43] (fun v43 wc => ∃ (kq : Nat) (x43_13 : Bool), v43 = .bool x43_13 ∧ Aside0 (antecedentref12_Comps.j3 kq t209 x5_1 x6_2 x8_2 x9_2 x10_3 x11_3 x43_13 = some r) ∧ Aside0 (kq ≤ k3) ∧ Aside0 (Kd.S (Kd.slice 4 Kd.bool) 24 wc w.heap.size (fun _ => True) u5 x5_1) ∧ Aside0 (Kd.R (Kd.int .i64) 3 wc w.heap.size (fun _ => True) u6 x6_2) ∧ Aside0 (Below w.heap.size w wc))
                  case first =>
                    have H := HC14.out
                    clear HC14
                    by_cases c15 : x11_3 < t209
                    · rw [if_pos c15] at H
                      have c15b0 : decide (x11_3 < t209) = true := decide_eq_true c15
                      clear c15
                      (first | rw [c15b0] | (simp only [i64_w, i32_w]; rw [c15b0]) | skip)
                      have H' := Aside0.mk H
                      clear H
                      go_wp2
                      go_wp2
                      repeat (go_quiet (fail); try go_wp2)
                      go_meet
                      case rel => exact ⟨_, (decide (x10_3 < 0)), (by first | rfl | (simp; done) | (simp [*]; done)), H', ⟨by have := HK1.out; have := HK2.out; have := HK3.out; first | omega | exact Nat.le_refl _⟩, ⟨by (with_reducible repeat (first | apply Kd.S_alloc | apply Kd.S_drewN | apply Kd.S_drew)); exact HO_5.out⟩, ⟨by (with_reducible repeat (first | apply Kd.R_alloc | apply Kd.R_drewN | apply Kd.R_drew)); exact HO_6.out⟩, ⟨by repeat (first | (with_reducible first | exact HB.out | apply below_alloc | apply pw_below_drewN | apply below_drew1) | exact HB.out)⟩⟩
                    · rw [if_neg c15] at H
                      have c15b0 : decide (x11_3 < t209) = false := decide_eq_false c15
                      clear c15
                      (first | rw [c15b0] | (simp only [i64_w, i32_w]; rw [c15b0]) | skip)
                      have H' := Aside0.mk H
                      clear H
                      go_wp2
                      go_wp2
                      repeat (go_quiet (fail); try go_wp2)
                      go_meet
                      case rel => exact ⟨_, (false), (by first | rfl | (simp; done) | (simp [*]; done)), H', ⟨by have := HK1.out; have := HK2.out; have := HK3.out; first | omega | exact Nat.le_refl _⟩, ⟨by (with_reducible repeat (first | apply Kd.S_alloc | apply Kd.S_drewN | apply Kd.S_drew)); exact HO_5.out⟩, ⟨by (with_reducible repeat (first | apply Kd.R_alloc | apply Kd.R_drewN | apply Kd.R_drew)); exact HO_6.out⟩, ⟨by repeat (first | (with_reducible first | exact HB.out | apply below_alloc | apply pw_below_drewN | apply below_drew1) | exact HB.out)⟩⟩
                  case rest =>
                    clear HC14
                    try clear c1
                    try clear p2
                    try clear c5
                    try clear c5b0
                    try clear p6
                    try clear c7
                    try clear c8
                    try clear c10
                    try clear c13
                    try clear c13b0
                    try clear c15
                    try clear c15b0
                    try clear p2
                    try clear p6
                    obtain ⟨kq, x43_13, rfl, HA, HJ13, HO_5, HO_6, HB⟩ := hcut
                    cases kq with
                    | zero => exact absurd HA.out (by simp [antecedentref12_Comps.j3])
                    | succ kj13 =>
                      have H := HA.out
                      clear HA
                      simp only [antecedentref12_Comps.j3] at H
                      by_cases c16 : x43_13 = true
                      · subst c16
                        have H1 : (if 0 ≤ x11_3 then (if x11_3 < (x6_2.length : Int) then (antecedentref12_Comps.l3 kj13 t209 x5_1 x6_2 x8_2 x9_2 x10_3 x11_3 (decide ((rd x6_2 x11_3) < 0)) 0) else (none)) else (none)) = some r := by rw [if_pos rfl] at H; exact H
                        clear H
                        have H := H1
                        clear H1
                        by_cases c17 : 0 ≤ x11_3
                        · rw [if_pos c17] at H
                          have c17b0 : decide (0 ≤ x11_3) = true := decide_eq_true c17
                          clear c17
                          by_cases c18 : x11_3 < (x6_2.length : Int)
                          · rw [if_pos c18] at H
                            have c18b0 : decide (x11_3 < (x6_2.length : Int)) = true := decide_eq_true c18
                            clear c18
                            have H' := Aside0.mk H
                            clear H
                            obtain ⟨Ao19, co19, eo19⟩ := Kd.R_slice HO_6.out
                            subst eo19
                            have p219 : 0 ≤ (x11_3 : Int) := of_decide_eq_true (by first | (with_reducible assumption) | assumption)
                            have q219 : x11_3 < (x6_2.length : Int) := of_decide_eq_true (by first | (with_reducible assumption) | assumption)
                            obtain ⟨ad219, e219, hx219_0⟩ := Kd.at_int (Kd.R_reads' HO_6.out).2.2 x11_3 p219 q219
                            cases e219
                            replace p219 := eq_true p219
                            replace q219 := eq_true q219
                            go_wp2
                            go_wp2
                            repeat (go_quiet (fail); try go_wp2)
                            go_loopg [12, 13] kj13 (fun kq v12 v13 w' => ∃ (x12_5 : Bool) (x13_5 : Int), v12 = .bool x12_5 ∧ v13 = .int .i64 x13_5 ∧ Aside0 (antecedentref12_Comps.l3 kq t209 x5_1 x6_2 x8_2 x9_2 x10_3 x11_3 x12_5 x13_5 = some r) ∧ Aside0 (kq ≤ kj13) ∧ Aside0 (Kd.S (Kd.slice 4 Kd.bool) 24 w' w.heap.size (fun _ => True) u5 x5_1) ∧ Aside0 (Kd.R (Kd.int .i64) 3 w' w.heap.size (fun _ => True) (.slice (some ad219) x6_2.length co19) x6_2) ∧ Aside0 (Below w.heap.size w w'))
                            case atStart => exact ⟨(decide ((rd x6_2 x11_3) < 0)), (0), (by first | rfl | (simp; done) | (simp [*]; done)), (by first | rfl | (simp; done) | (simp [*]; done)), H', ⟨Nat.le_refl _⟩, ⟨by (with_reducible repeat (first | apply Kd.S_alloc | apply Kd.S_drewN | apply Kd.S_drew)); exact HO_5.out⟩, ⟨by (with_reducible repeat (first | apply Kd.R_alloc | apply Kd.R_drewN | apply Kd.R_drew)); exact HO_6.out⟩, ⟨by repeat (first | (with_reducible first | exact HB.out | apply below_alloc | apply pw_below_drewN | apply below_drew1) | exact HB.out)⟩⟩
                            case round =>
                              clear H'
                              try clear c1
                              try clear p2
                              try clear q2
                              try clear hx2
                              try clear c5
                              try clear c5b0
                              try clear p6
                              try clear c7
                              try clear c8
                              try clear c10
                              try clear c13
                              try clear c13b0
                              try clear c15
                              try clear c15b0
                              try clear c16
                              try clear c17
                              try clear c17b0
                              try clear c18
                              try clear c18b0
                              try clear hx219_0
                              try clear p2
                              try clear p219
                              try clear p6
                              try clear q219
                              obtain ⟨x12_5, x13_5, rfl, rfl, HA, HK5, HO_5, HO_6, HB⟩ := hrel
                              cases gk with
                              | zero => exact absurd HA.out (by simp [antecedentref12_Comps.l3])
                              | succ k5 =>
                                have H := HA.out
                                clear HA
                                simp only [antecedentref12_Comps.l3] at H
                                by_cases c20 : x13_5 < t209
                                · rw [if_pos c20] at H
                                  have c20b0 : decide (x13_5 < t209) = true := decide_eq_true c20
                                  clear c20
                                  by_cases c21 : x12_5 = true
                                  · subst c21
                                    have H1 : (if 0 ≤ x11_3 then (if x11_3 < (x5_1.length : Int) then (if 0 ≤ x13_5 then (if x13_5 < ((rd_L5 x5_1 x11_3).length : Int) then (if (rdOf false (rd_L5 x5_1 x11_3) x13_5 = true) then (if x13_5 < (x5_1.length : Int) then (if x11_3 < ((rd_L5 x5_1 x13_5).length : Int) then (if rdOf false (rd_L5 x5_1 x13_5) x11_3 = true then (antecedentref12_Comps.l3 k5 t209 x5_1 x6_2 x8_2 x9_2 x10_3 x11_3 true (wrap64 (x13_5 + 1))) else (if x13_5 < (x6_2.length : Int) then (antecedentref12_Comps.l3 k5 t209 x5_1 x6_2 x8_2 x9_2 x10_3 x11_3 (decide ((rd x6_2 x13_5) ≥ 0)) (wrap64 (x13_5 + 1))) else (none))) else (none)) else (none)) else (antecedentref12_Comps.l3 k5 t209 x5_1 x6_2 x8_2 x9_2 x10_3 x11_3 true (wrap64 (x13_5 + 1)))) else (none)) else (none)) else (none)) else (none)) = some r := by rw [if_pos rfl] at H; exact H
                                    clear H
                                    have H := H1
                                    clear H1
                                    by_cases c22 : 0 ≤ x11_3
                                    · rw [if_pos c22] at H
                                      have c22b0 : decide (0 ≤ x11_3) = true := decide_eq_true c22
                                      clear c22
                                      by_cases c23 : x11_3 < (x5_1.length : Int)
                                      · rw [if_pos c23] at H
                                        have c23b0 : decide (x11_3 < (x5_1.length : Int)) = true := decide_eq_true c23
                                        clear c23
                                        by_cases c24 : 0 ≤ x13_5
                                        · rw [if_pos c24] at H
                                          have c24b0 : decide (0 ≤ x13_5) = true := decide_eq_true c24
                                          clear c24
                                          by_cases c25 : x13_5 < ((rd_L5 x5_1 x11_3).length : Int)
                                          · rw [if_pos c25] at H
                                            have c25b0 : decide (x13_5 < ((rd_L5 x5_1 x11_3).length : Int)) = true := decide_eq_true c25
                                            clear c25
                                            obtain ⟨bq26, hbq26⟩ : ∃ b_ : Bool, b_ = (rdOf false (rd_L5 x5_1 x11_3) x13_5) := ⟨_, rfl⟩
                                            replace H : (if (bq26 = true) then (if x13_5 < (x5_1.length : Int) then (if x11_3 < ((rd_L5 x5_1 x13_5).length : Int) then (if rdOf false (rd_L5 x5_1 x13_5) x11_3 = true then (antecedentref12_Comps.l3 k5 t209 x5_1 x6_2 x8_2 x9_2 x10_3 x11_3 true (wrap64 (x13_5 + 1))) else (if x13_5 < (x6_2.length : Int) then (antecedentref12_Comps.l3 k5 t209 x5_1 x6_2 x8_2 x9_2 x10_3 x11_3 (decide ((rd x6_2 x13_5) ≥ 0)) (wrap64 (x13_5 + 1))) else (none))) else (none)) else (none)) else (antecedentref12_Comps.l3 k5 t209 x5_1 x6_2 x8_2 x9_2 x10_3 x11_3 true (wrap64 (x13_5 + 1)))) = some r := by rw [← hbq26] at H; exact H
                                            have Nbq26 := Aside0.mk hbq26
                                            clear hbq26
                                            by_cases c27 : (bq26 = true)
                                            · subst c27
                                              have H1 : (if x13_5 < (x5_1.length : Int) then (if x11_3 < ((rd_L5 x5_1 x13_5).length : Int) then (if rdOf false (rd_L5 x5_1 x13_5) x11_3 = true then (antecedentref12_Comps.l3 k5 t209 x5_1 x6_2 x8_2 x9_2 x10_3 x11_3 true (wrap64 (x13_5 + 1))) else (if x13_5 < (x6_2.length : Int) then (antecedentref12_Comps.l3 k5 t209 x5_1 x6_2 x8_2 x9_2 x10_3 x11_3 (decide ((rd x6_2 x13_5) ≥ 0)) (wrap64 (x13_5 + 1))) else (none))) else (none)) else (none)) = some r := by rw [if_pos rfl] at H; exact H
                                              clear H
                                              have H := H1
                                              clear H1
                                              by_cases c28 : x13_5 < (x5_1.length : Int)
                                              · rw [if_pos c28] at H
                                                have c28b0 : decide (x13_5 < (x5_1.length : Int)) = true := decide_eq_true c28
                                                clear c28
                                                by_cases c29 : x11_3 < ((rd_L5 x5_1 x13_5).length : Int)
                                                · rw [if_pos c29] at H
                                                  have c29b0 : decide (x11_3 < ((rd_L5 x5_1 x13_5).length : Int)) = true := decide_eq_true c29
                                                  clear c29
                                                  obtain ⟨bq30, hbq30⟩ : ∃ b_ : Bool, b_ = (rdOf false (rd_L5 x5_1 x13_5) x11_3) := ⟨_, rfl⟩
                                                  replace H : (if bq30 = true then (antecedentref12_Comps.l3 k5 t209 x5_1 x6_2 x8_2 x9_2 x10_3 x11_3 true (wrap64 (x13_5 + 1))) else (if x13_5 < (x6_2.length : Int) then (antecedentref12_Comps.l3 k5 t209 x5_1 x6_2 x8_2 x9_2 x10_3 x11_3 (decide ((rd x6_2 x13_5) ≥ 0)) (wrap64 (x13_5 + 1))) else (none))) = some r := by rw [← hbq30] at H; exact H
                                                  have Nbq30 := Aside0.mk hbq30
                                                  clear hbq30
                                                  by_cases c31 : bq30 = true
                                                  · subst c31
                                                    have H1 : (antecedentref12_Comps.l3 k5 t209 x5_1 x6_2 x8_2 x9_2 x10_3 x11_3 true (wrap64 (x13_5 + 1))) = some r := by rw [if_pos rfl] at H; exact H
                                                    clear H
                                                    have H := H1
                                                    clear H1
                                                    have H' := Aside0.mk H
                                                    clear H
                                                    obtain ⟨Ao32, co32, eo32⟩ := Kd.S_slice HO_5.out
                                                    subst eo32
                                                    have p220 : 0 ≤ (x11_3 : Int) := of_decide_eq_true (by first | (with_reducible assumption) | assumption)
                                                    have q220 : x11_3 < (x5_1.length : Int) := of_decide_eq_true (by first | (with_reducible assumption) | assumption)
                                                    obtain ⟨ad220, A220_0, c220_0, e220, hx220_0, hl220_0, hi220_0⟩ := at_L5 (Kd.S_reads' HO_5.out).2.2 x11_3 p220 q220
                                                    cases e220
                                                    obtain ⟨ce220, hce220, hMe220, hcc220⟩ := Kd.S_get HO_5.out [] x11_3 p220 (by first | exact q220 | exact of_decide_eq_true (by first | (with_reducible assumption) | assumption) | (have e_ := (Kd.S_reads' HO_5.out).1; omega))
                                                    obtain ⟨ve220_0, rfl, ge220_0⟩ := hMe220
                                                    have hv220_0 := hcc220 0 _ rfl
                                                    rw [Nat.add_zero, show ((Kd.slice 4 Kd.bool)).sz = 1 from rfl, Nat.mul_one] at hv220_0
                                                    replace hv220_0 := Option.some.inj (hv220_0.symm.trans hx220_0)
                                                    rw [hv220_0] at ge220_0
                                                    have HL220_0 := Aside0.mk (show Kd.R Kd.bool 4 _ _ _ _ (rd_L5 x5_1 x11_3) from ge220_0)
                                                    clear hv220_0 ge220_0
                                                    clear hcc220 hce220
                                                    have HR220_0 := Aside0.mk hi220_0
                                                    have HC220_0 := Aside0.mk hl220_0
                                                    clear hi220_0 hl220_0
                                                    replace p220 := eq_true p220
                                                    replace q220 := eq_true q220
                                                    have p221 : 0 ≤ (x13_5 : Int) := of_decide_eq_true (by first | (with_reducible assumption) | assumption)
                                                    have q221 : x13_5 < ((rd_L5 x5_1 x11_3).length : Int) := of_decide_eq_true (by first | (with_reducible assumption) | assumption)
                                                    obtain ⟨ad221, e221, hx221_0⟩ := Kd.at_bool (by repeat (first | (with_reducible exact HR220_0.out) | (with_reducible refine Kd.C_alloc ?_ _) | (with_reducible refine Kd.C_drewN ?_ _) | (with_reducible refine Kd.C_drew ?_) | exact HR220_0.out)) x13_5 p221 q221
                                                    (try rw [← Nbq26.out] at hx221_0)
                                                    (try rw [← Nbq30.out] at hx221_0)
                                                    cases e221
                                                    replace p221 := eq_true p221
                                                    replace q221 := eq_true q221
                                                    have p222 : 0 ≤ (x13_5 : Int) := of_decide_eq_true (by first | (with_reducible assumption) | assumption)
                                                    have q222 : x13_5 < (x5_1.length : Int) := of_decide_eq_true (by first | (with_reducible assumption) | assumption)
                                                    obtain ⟨ad222, A222_0, c222_0, e222, hx222_0, hl222_0, hi222_0⟩ := at_L5 (Kd.S_reads' HO_5.out).2.2 x13_5 p222 q222
                                                    obtain rfl : ad220 = ad222 := (by injection e222)
                                                    obtain ⟨ce222, hce222, hMe222, hcc222⟩ := Kd.S_get HO_5.out [] x13_5 p222 (by first | exact q222 | exact of_decide_eq_true (by first | (with_reducible assumption) | assumption) | (have e_ := (Kd.S_reads' HO_5.out).1; omega))
                                                    obtain ⟨ve222_0, rfl, ge222_0⟩ := hMe222
                                                    have hv222_0 := hcc222 0 _ rfl
                                                    rw [Nat.add_zero, show ((Kd.slice 4 Kd.bool)).sz = 1 from rfl, Nat.mul_one] at hv222_0
                                                    replace hv222_0 := Option.some.inj (hv222_0.symm.trans hx222_0)
                                                    rw [hv222_0] at ge222_0
                                                    have HL222_0 := Aside0.mk (show Kd.R Kd.bool 4 _ _ _ _ (rd_L5 x5_1 x13_5) from ge222_0)
                                                    clear hv222_0 ge222_0
                                                    clear hcc222 hce222
                                                    have HR222_0 := Aside0.mk hi222_0
                                                    have HC222_0 := Aside0.mk hl222_0
                                                    clear hi222_0 hl222_0
                                                    replace p222 := eq_true p222
                                                    replace q222 := eq_true q222
                                                    have p223 : 0 ≤ (x11_3 : Int) := of_decide_eq_true (by first | (with_reducible assumption) | assumption)
                                                    have q223 : x11_3 < ((rd_L5 x5_1 x13_5).length : Int) := of_decide_eq_true (by first | (with_reducible assumption) | assumption)
                                                    obtain ⟨ad223, e223, hx223_0⟩ := Kd.at_bool (by repeat (first | (with_reducible exact HR222_0.out) | (with_reducible refine Kd.C_alloc ?_ _) | (with_reducible refine Kd.C_drewN ?_ _) | (with_reducible refine Kd.C_drew ?_) | exact HR222_0.out)) x11_3 p223 q223
                                                    (try rw [← Nbq26.out] at hx223_0)
                                                    (try rw [← Nbq30.out] at hx223_0)
                                                    cases e223
                                                    replace p223 := eq_true p223
                                                    replace q223 := eq_true q223
                                                    go_wp2
                                                    go_wp2
                                                    repeat (go_quiet (fail); try go_wp2)
                                                    go_roundg k5
                                                    case measure => have := HK1.out; have := HK2.out; have := HK3.out; have := HJ13.out; have := HK5.out; omega
                                                    case rel => exact ⟨(true), (wrap64 (x13_5 + 1)), (by first | rfl | (simp; done) | (simp [*]; done)), (by first | rfl | (simp; done) | (simp [*]; done)), H', ⟨by have := HK1.out; have := HK2.out; have := HK3.out; have := HJ13.out; have := HK5.out; omega⟩, ⟨by (with_reducible repeat (first | apply Kd.S_alloc | apply Kd.S_drewN | apply Kd.S_drew)); exact HO_5.out⟩, ⟨by (with_reducible repeat (first | apply Kd.R_alloc | apply Kd.R_drewN | apply Kd.R_drew)); exact HO_6.out⟩, ⟨by repeat (first | (with_reducible first | exact HB.out | apply below_alloc | apply pw_below_drewN | apply below_drew1) | exact HB.out)⟩⟩
                                                  · replace c31 := Bool.eq_false_iff.mpr c31
                                                    subst c31
                                                    have H1 : (if x13_5 < (x6_2.length : Int) then (antecedentref12_Comps.l3 k5 t209 x5_1 x6_2 x8_2 x9_2 x10_3 x11_3 (decide ((rd x6_2 x13_5) ≥ 0)) (wrap64 (x13_5 + 1))) else (none)) = some r := by rw [if_neg (show ¬ (false = true) by decide)] at H; exact H
                                                    clear H
                                                    have H := H1
                                                    clear H1
                                                    by_cases c33 : x13_5 < (x6_2.length : Int)
                                                    · rw [if_pos c33] at H
                                                      have c33b0 : decide (x13_5 < (x6_2.length : Int)) = true := decide_eq_true c33
                                                      clear c33
                                                      have H' := Aside0.mk H
                                                      clear H
                                                      obtain ⟨Ao34, co34, eo34⟩ := Kd.S_slice HO_5.out
                                                      subst eo34
                                                      have p220 : 0 ≤ (x11_3 : Int) := of_decide_eq_true (by first | (with_reducible assumption) | assumption)
                                                      have q220 : x11_3 < (x5_1.length : Int) := of_decide_eq_true (by first | (with_reducible assumption) | assumption)
                                                      obtain ⟨ad220, A220_0, c220_0, e220, hx220_0, hl220_0, hi220_0⟩ := at_L5 (Kd.S_reads' HO_5.out).2.2 x11_3 p220 q220
                                                      cases e220
                                                      obtain ⟨ce220, hce220, hMe220, hcc220⟩ := Kd.S_get HO_5.out [] x11_3 p220 (by first | exact q220 | exact of_decide_eq_true (by first | (with_reducible assumption) | assumption) | (have e_ := (Kd.S_reads' HO_5.out).1; omega))
                                                      obtain ⟨ve220_0, rfl, ge220_0⟩ := hMe220
                                                      have hv220_0 := hcc220 0 _ rfl
                                                      rw [Nat.add_zero, show ((Kd.slice 4 Kd.bool)).sz = 1 from rfl, Nat.mul_one] at hv220_0
                                                      replace hv220_0 := Option.some.inj (hv220_0.symm.trans hx220_0)
                                                      rw [hv220_0] at ge220_0
                                                      have HL220_0 := Aside0.mk (show Kd.R Kd.bool 4 _ _ _ _ (rd_L5 x5_1 x11_3) from ge220_0)
                                                      clear hv220_0 ge220_0
                                                      clear hcc220 hce220
                                                      have HR220_0 := Aside0.mk hi220_0
                                                      have HC220_0 := Aside0.mk hl220_0
                                                      clear hi220_0 hl220_0
                                                      replace p220 := eq_true p220
                                                      replace q220 := eq_true q220
                                                      have p221 : 0 ≤ (x13_5 : Int) := of_decide_eq_true (by first | (with_reducible assumption) | assumption)
                                                      have q221 : x13_5 < ((rd_L5 x5_1 x11_3).length : Int) := of_decide_eq_true (by first | (with_reducible assumption) | assumption)
                                                      obtain ⟨ad221, e221, hx221_0⟩ := Kd.at_bool (by repeat (first | (with_reducible exact HR220_0.out) | (with_reducible refine Kd.C_alloc ?_ _) | (with_reducible refine Kd.C_drewN ?_ _) | (with_reducible refine Kd.C_drew ?_) | exact HR220_0.out)) x13_5 p221 q221
                                                      (try rw [← Nbq26.out] at hx221_0)
                                                      (try rw [← Nbq30.out] at hx221_0)
                                                      cases e221
                                                      replace p221 := eq_true p221
                                                      replace q221 := eq_true q221
                                                      have p222 : 0 ≤ (x13_5 : Int) := of_decide_eq_true (by first | (with_reducible assumption) | assumption)
                                                      have q222 : x13_5 < (x5_1.length : Int) := of_decide_eq_true (by first | (with_reducible assumption) | assumption)
                                                      obtain ⟨ad222, A222_0, c222_0, e222, hx222_0, hl222_0, hi222_0⟩ := at_L5 (Kd.S_reads' HO_5.out).2.2 x13_5 p222 q222
                                                      obtain rfl : ad220 = ad222 := (by injection e222)
                                                      obtain ⟨ce222, hce222, hMe222, hcc222⟩ := Kd.S_get HO_5.out [] x13_5 p222 (by first | exact q222 | exact of_decide_eq_true (by first | (with_reducible assumption) | assumption) | (have e_ := (Kd.S_reads' HO_5.out).1; omega))
                                                      obtain ⟨ve222_0, rfl, ge222_0⟩ := hMe222
                                                      have hv222_0 := hcc222 0 _ rfl
                                                      rw [Nat.add_zero, show ((Kd.slice 4 Kd.bool)).sz = 1 from rfl, Nat.mul_one] at hv222_0
                                                      replace hv222_0 := Option.some.inj (hv222_0.symm.trans hx222_0)
                                                      rw [hv222_0] at ge222_0
                                                      have HL222_0 := Aside0.mk (show Kd.R Kd.bool 4 _ _ _ _ (rd_L5 x5_1 x13_5) from ge222_0)
                                                      clear hv222_0 ge222_0
                                                      clear hcc222 hce222
                                                      have HR222_0 := Aside0.mk hi222_0
                                                      have HC222_0 := Aside0.mk hl222_0
                                                      clear hi222_0 hl222_0
                                                      replace p222 := eq_true p222
                                                      replace q222 := eq_true q222
                                                      have p223 : 0 ≤ (x11_3 : Int) := of_decide_eq_true (by first | (with_reducible assumption) | assumption)
                                                      have q223 : x11_3 < ((rd_L5 x5_1 x13_5).length : Int) := of_decide_eq_true (by first | (with_reducible assumption) | assumption)
                                                      obtain ⟨ad223, e223, hx223_0⟩ := Kd.at_bool (by repeat (first | (with_reducible exact HR222_0.out) | (with_reducible refine Kd.C_alloc ?_ _) | (with_reducible refine Kd.C_drewN ?_ _) | (with_reducible refine Kd.C_drew ?_) | exact HR222_0.out)) x11_3 p223 q223
                                                      (try rw [← Nbq26.out] at hx223_0)
                                                      (try rw [← Nbq30.out] at hx223_0)
                                                      cases e223
                                                      replace p223 := eq_true p223
                                                      replace q223 := eq_true q223
                                                      have p224 : 0 ≤ (x13_5 : Int) := of_decide_eq_true (by first | (with_reducible assumption) | assumption)
                                                      have q224 : x13_5 < (x6_2.length : Int) := of_decide_eq_true (by first | (with_reducible assumption) | assumption)
                                                      obtain ⟨ad224, e224, hx224_0⟩ := Kd.at_int (Kd.R_reads' HO_6.out).2.2 x13_5 p224 q224
                                                      obtain rfl : ad219 = ad224 := (by injection e224)
                                                      replace p224 := eq_true p224
                                                      replace q224 := eq_true q224
                                                      go_wp2
                                                      go_wp2
                                                      repeat (go_quiet (fail); try go_wp2)
                                                      go_roundg k5
                                                      case measure => have := HK1.out; have := HK2.out; have := HK3.out; have := HJ13.out; have := HK5.out; omega
                                                      case rel => exact ⟨(decide ((rd x6_2 x13_5) ≥ 0)), (wrap64 (x13_5 + 1)), (by first | rfl | (simp; done) | (simp [*]; done)), (by first | rfl | (simp; done) | (simp [*]; done)), H', ⟨by have := HK1.out; have := HK2.out; have := HK3.out; have := HJ13.out; have := HK5.out; omega⟩, ⟨by (with_reducible repeat (first | apply Kd.S_alloc | apply Kd.S_drewN | apply Kd.S_drew)); exact HO_5.out⟩, ⟨by (with_reducible repeat (first | apply Kd.R_alloc | apply Kd.R_drewN | apply Kd.R_drew)); exact HO_6.out⟩, ⟨by repeat (first | (with_reducible first | exact HB.out | apply below_alloc | apply pw_below_drewN | apply below_drew1) | exact HB.out)⟩⟩
                                                    · rw [if_neg c33] at H
                                                      exact absurd H (by simp)
                                                · rw [if_neg c29] at H
                                                  exact absurd H (by simp)
                                              · rw [if_neg c28] at H
                                                exact absurd H (by simp)
                                            · replace c27 := Bool.eq_false_iff.mpr c27
                                              subst c27
                                              have H1 : (antecedentref12_Comps.l3 k5 t209 x5_1 x6_2 x8_2 x9_2 x10_3 x11_3 true (wrap64 (x13_5 + 1))) = some r := by rw [if_neg (show ¬ (false = true) by decide)] at H; exact H
                                              clear H
                                              have H := H1
                                              clear H1
                                              have H' := Aside0.mk H
                                              clear H
                                              obtain ⟨Ao35, co35, eo35⟩ := Kd.S_slice HO_5.out
                                              subst eo35
                                              have p220 : 0 ≤ (x11_3 : Int) := of_decide_eq_true (by first | (with_reducible assumption) | assumption)
                                              have q220 : x11_3 < (x5_1.length : Int) := of_decide_eq_true (by first | (with_reducible assumption) | assumption)
                                              obtain ⟨ad220, A220_0, c220_0, e220, hx220_0, hl220_0, hi220_0⟩ := at_L5 (Kd.S_reads' HO_5.out).2.2 x11_3 p220 q220
                                              cases e220
                                              obtain ⟨ce220, hce220, hMe220, hcc220⟩ := Kd.S_get HO_5.out [] x11_3 p220 (by first | exact q220 | exact of_decide_eq_true (by first | (with_reducible assumption) | assumption) | (have e_ := (Kd.S_reads' HO_5.out).1; omega))
                                              obtain ⟨ve220_0, rfl, ge220_0⟩ := hMe220
                                              have hv220_0 := hcc220 0 _ rfl
                                              rw [Nat.add_zero, show ((Kd.slice 4 Kd.bool)).sz = 1 from rfl, Nat.mul_one] at hv220_0
                                              replace hv220_0 := Option.some.inj (hv220_0.symm.trans hx220_0)
                                              rw [hv220_0] at ge220_0
                                              have HL220_0 := Aside0.mk (show Kd.R Kd.bool 4 _ _ _ _ (rd_L5 x5_1 x11_3) from ge220_0)
                                              clear hv220_0 ge220_0
                                              clear hcc220 hce220
                                              have HR220_0 := Aside0.mk hi220_0
                                              have HC220_0 := Aside0.mk hl220_0
                                              clear hi220_0 hl220_0
                                              replace p220 := eq_true p220
                                              replace q220 := eq_true q220
                                              have p221 : 0 ≤ (x13_5 : Int) := of_decide_eq_true (by first | (with_reducible assumption) | assumption)
                                              have q221 : x13_5 < ((rd_L5 x5_1 x11_3).length : Int) := of_decide_eq_true (by first | (with_reducible assumption) | assumption)
                                              obtain ⟨ad221, e221, hx221_0⟩ := Kd.at_bool (by repeat (first | (with_reducible exact HR220_0.out) | (with_reducible refine Kd.C_alloc ?_ _) | (with_reducible refine Kd.C_drewN ?_ _) | (with_reducible refine Kd.C_drew ?_) | exact HR220_0.out)) x13_5 p221 q221
                                              (try rw [← Nbq26.out] at hx221_0)
                                              cases e221
                                              replace p221 := eq_true p221
                                              replace q221 := eq_true q221
                                              go_wp2
                                              go_wp2
                                              repeat (go_quiet (fail); try go_wp2)
                                              go_roundg k5
                                              case measure => have := HK1.out; have := HK2.out; have := HK3.out; have := HJ13.out; have := HK5.out; omega
                                              case rel => exact ⟨(true), (wrap64 (x13_5 + 1)), (by first | rfl | (simp; done) | (simp [*]; done)), (by first | rfl | (simp; done) | (simp [*]; done)), H', ⟨by have := HK1.out; have := HK2.out; have := HK3.out; have := HJ13.out; have := HK5.out; omega⟩, ⟨by (with_reducible repeat (first | apply Kd.S_alloc | apply Kd.S_drewN | apply Kd.S_drew)); exact HO_5.out⟩, ⟨by (with_reducible repeat (first | apply Kd.R_alloc | apply Kd.R_drewN | apply Kd.R_drew)); exact HO_6.out⟩, ⟨by repeat (first | (with_reducible first | exact HB.out | apply below_alloc | apply pw_below_drewN | apply below_drew1) | exact HB.out)⟩⟩
                                          · rw [if_neg c25] at H
                                            exact absurd H (by simp)
                                        · rw [if_neg c24] at H
                                          exact absurd H (by simp)
                                      · rw [if_neg c23] at H
                                        exact absurd H (by simp)
                                    · rw [if_neg c22] at H
                                      exact absurd H (by simp)
                                  · replace c21 := Bool.eq_false_iff.mpr c21
                                    subst c21
                                    have H1 : (antecedentref12_Comps.l3 k5 t209 x5_1 x6_2 x8_2 x9_2 x10_3 x11_3 false (wrap64 (x13_5 + 1))) = some r := by rw [if_neg (show ¬ (false = true) by decide)] at H; exact H
                                    clear H
                                    have H := H1
                                    clear H1
                                    have H' := Aside0.mk H
                                    clear H
                                    go_wp2
                                    go_wp2
                                    repeat (go_quiet (fail); try go_wp2)
                                    go_roundg k5
                                    case measure => have := HK1.out; have := HK2.out; have := HK3.out; have := HJ13.out; have := HK5.out; omega
                                    case rel => exact ⟨(false), (wrap64 (x13_5 + 1)), (by first | rfl | (simp; done) | (simp [*]; done)), (by first | rfl | (simp; done) | (simp [*]; done)), H', ⟨by have := HK1.out; have := HK2.out; have := HK3.out; have := HJ13.out; have := HK5.out; omega⟩, ⟨by (with_reducible repeat (first | apply Kd.S_alloc | apply Kd.S_drewN | apply Kd.S_drew)); exact HO_5.out⟩, ⟨by (with_reducible repeat (first | apply Kd.R_alloc | apply Kd.R_drewN | apply Kd.R_drew)); exact HO_6.out⟩, ⟨by repeat (first | (with_reducible first | exact HB.out | apply below_alloc | apply pw_below_drewN | apply below_drew1) | exact HB.out)⟩⟩
                                · rw [if_neg c20] at H
                                  have c20b0 : decide (x13_5 < t209) = false := decide_eq_false c20
                                  clear c20
                                  by_cases c36 : x12_5 = true
                                  · subst c36
                                    have H1 : (antecedentref12_Comps.l2 k5 t209 x5_1 x6_2 x8_2 x9_2 x11_3 (wrap64 (x11_3 + 1))) = some r := by rw [if_pos rfl] at H; exact H
                                    clear H
                                    have H := H1
                                    clear H1
                                    have H' := Aside0.mk H
                                    clear H
                                    go_wp2
                                    go_wp2
                                    repeat (go_quiet (fail); try go_wp2)
                                    go_roundg k5
                                    case measure => have := HK1.out; have := HK2.out; have := HK3.out; have := HJ13.out; have := HK5.out; omega
                                    case rel => exact ⟨(x11_3), (wrap64 (x11_3 + 1)), (by first | rfl | (simp; done) | (simp [*]; done)), (by first | rfl | (simp; done) | (simp [*]; done)), H', ⟨by have := HK1.out; have := HK2.out; have := HK3.out; have := HJ13.out; have := HK5.out; omega⟩, ⟨by (with_reducible repeat (first | apply Kd.S_alloc | apply Kd.S_drewN | apply Kd.S_drew)); exact HO_5.out⟩, ⟨by (with_reducible repeat (first | apply Kd.R_alloc | apply Kd.R_drewN | apply Kd.R_drew)); exact HO_6.out⟩, ⟨by repeat (first | (with_reducible first | exact HB.out | apply below_alloc | apply pw_below_drewN | apply below_drew1) | exact HB.out)⟩⟩
                                  · replace c36 := Bool.eq_false_iff.mpr c36
                                    subst c36
                                    have H1 : (antecedentref12_Comps.l2 k5 t209 x5_1 x6_2 x8_2 x9_2 x10_3 (wrap64 (x11_3 + 1))) = some r := by rw [if_neg (show ¬ (false = true) by decide)] at H; exact H
                                    clear H
                                    have H := H1
                                    clear H1
                                    have H' := Aside0.mk H
                                    clear H
                                    go_wp2
                                    go_wp2
                                    repeat (go_quiet (fail); try go_wp2)
                                    go_roundg k5
                                    case measure => have := HK1.out; have := HK2.out; have := HK3.out; have := HJ13.out; have := HK5.out; omega
                                    case rel => exact ⟨(x10_3), (wrap64 (x11_3 + 1)), (by first | rfl | (simp; done) | (simp [*]; done)), (by first | rfl | (simp; done) | (simp [*]; done)), H', ⟨by have := HK1.out; have := HK2.out; have := HK3.out; have := HJ13.out; have := HK5.out; omega⟩, ⟨by (with_reducible repeat (first | apply Kd.S_alloc | apply Kd.S_drewN | apply Kd.S_drew)); exact HO_5.out⟩, ⟨by (with_reducible repeat (first | apply Kd.R_alloc | apply Kd.R_drewN | apply Kd.R_drew)); exact HO_6.out⟩, ⟨by repeat (first | (with_reducible first | exact HB.out | apply below_alloc | apply pw_below_drewN | apply below_drew1) | exact HB.out)⟩⟩
                          · rw [if_neg c18] at H
                            exact absurd H (by simp)
                        · rw [if_neg c17] at H
                          exact absurd H (by simp)
                      · replace c16 := Bool.eq_false_iff.mpr c16
                        subst c16
                        have H1 : (antecedentref12_Comps.l4 kj13 t209 x5_1 x6_2 x8_2 x9_2 x10_3 0) = some r := by rw [if_neg (show ¬ (false = true) by decide)] at H; exact H
                        clear H
                        have H := H1
                        clear H1
                        have H' := Aside0.mk H
                        clear H
                        go_wp2
                        go_wp2
                        repeat (go_quiet (fail); try go_wp2)
                        go_loopg [9, 14] kj13 (fun kq v9 v14 w' => ∃ (x6_5 : List Int) (x9_5 : Int) (x14_5 : Int), v9 = .int .i64 x9_5 ∧ v14 = .int .i64 x14_5 ∧ Aside0 (antecedentref12_Comps.l4 kq t209 x5_1 x6_5 x8_2 x9_5 x10_3 x14_5 = some r) ∧ Aside0 (kq ≤ kj13) ∧ Aside0 (Kd.S (Kd.slice 4 Kd.bool) 24 w' w.heap.size (fun _ => True) u5 x5_1) ∧ Aside0 (Kd.R (Kd.int .i64) 3 w' w.heap.size (fun _ => True) u6 x6_5) ∧ Aside0 (Below w.heap.size w w'))
                        case atStart => exact ⟨(x6_2), (x9_2), (0), (by first | rfl | (simp; done) | (simp [*]; done)), (by first | rfl | (simp; done) | (simp [*]; done)), H', ⟨Nat.le_refl _⟩, ⟨by (with_reducible repeat (first | apply Kd.S_alloc | apply Kd.S_drewN | apply Kd.S_drew)); exact HO_5.out⟩, ⟨by (with_reducible repeat (first | apply Kd.R_alloc | apply Kd.R_drewN | apply Kd.R_drew)); exact HO_6.out⟩, ⟨by repeat (first | (with_reducible first | exact HB.out | apply below_alloc | apply pw_below_drewN | apply below_drew1) | exact HB.out)⟩⟩
                        case round =>
                          clear H'
                          try clear c1
                          try clear c2
                          try clear p2
                          try clear q2
                          try clear hx2
                          try clear c3
                          try clear q3
                          try clear c5
                          try clear c5b0
                          try clear p6
                          try clear c7
                          try clear c8
                          try clear c10
                          try clear c13
                          try clear c13b0
                          try clear c15
                          try clear c15b0
                          try clear c16
                          try clear c17
                          try clear c17b0
                          try clear c18
                          try clear c18b0
                          try clear c20
                          try clear c20b0
                          try clear c21
                          try clear p21
                          try clear q21
                          try clear hx21
                          try clear c22
                          try clear c22b0
                          try clear p22
                          try clear q22
                          try clear hx22
                          try clear c23
                          try clear c23b0
                          try clear c24
                          try clear c24b0
                          try clear c25
                          try clear c25b0
                          try clear q26
                          try clear c27
                          try clear c28
                          try clear c28b0
                          try clear c29
                          try clear c29b0
                          try clear q30
                          try clear c31
                          try clear c33
                          try clear c33b0
                          try clear c36
                          try clear hx219_0
                          try clear hx220_0
                          try clear hx221_0
                          try clear hx222_0
                          try clear hx223_0
                          try clear hx224_0
                          try clear p2
                          try clear p219
                          try clear p220
                          try clear p221
                          try clear p222
                          try clear p223
                          try clear p224
                          try clear p6
                          try clear q2
                          try clear q219
                          try clear q220
                          try clear q221
                          try clear q222
                          try clear q223
                          try clear q224
                          obtain ⟨x6_5, x9_5, x14_5, rfl, rfl, HA, HK5, HO_5, HO_6, HB⟩ := hrel
                          cases gk with
                          | zero => exact absurd HA.out (by simp [antecedentref12_Comps.l4])
                          | succ k5 =>
                            have H := HA.out
                            clear HA
                            simp only [antecedentref12_Comps.l4] at H
                            by_cases c37 : x14_5 < t209
                            · rw [if_pos c37] at H
                              have c37b0 : decide (x14_5 < t209) = true := decide_eq_true c37
                              clear c37
                              by_cases c38 : 0 ≤ x10_3
                              · rw [if_pos c38] at H
                                have c38b0 : decide (0 ≤ x10_3) = true := decide_eq_true c38
                                clear c38
                                by_cases c39 : x10_3 < (x5_1.length : Int)
                                · rw [if_pos c39] at H
                                  have c39b0 : decide (x10_3 < (x5_1.length : Int)) = true := decide_eq_true c39
                                  clear c39
                                  by_cases c40 : 0 ≤ x14_5
                                  · rw [if_pos c40] at H
                                    have c40b0 : decide (0 ≤ x14_5) = true := decide_eq_true c40
                                    clear c40
                                    by_cases c41 : x14_5 < ((rd_L5 x5_1 x10_3).length : Int)
                                    · rw [if_pos c41] at H
                                      have c41b0 : decide (x14_5 < ((rd_L5 x5_1 x10_3).length : Int)) = true := decide_eq_true c41
                                      clear c41
                                      obtain ⟨bq42, hbq42⟩ : ∃ b_ : Bool, b_ = (rdOf false (rd_L5 x5_1 x10_3) x14_5) := ⟨_, rfl⟩
                                      replace H : (if bq42 = true then (if x14_5 < (x5_1.length : Int) then (if x10_3 < ((rd_L5 x5_1 x14_5).length : Int) then (if rdOf false (rd_L5 x5_1 x14_5) x10_3 = true then (if x14_5 < (x6_5.length : Int) then (antecedentref12_Comps.l4 k5 t209 x5_1 (x6_5.set (x14_5 : Int).toNat x8_2) x8_2 (wrap64 (x9_5 + 1)) x10_3 (wrap64 (x14_5 + 1))) else (none)) else (antecedentref12_Comps.l4 k5 t209 x5_1 x6_5 x8_2 x9_5 x10_3 (wrap64 (x14_5 + 1)))) else (none)) else (none)) else (antecedentref12_Comps.l4 k5 t209 x5_1 x6_5 x8_2 x9_5 x10_3 (wrap64 (x14_5 + 1)))) = some r := by rw [← hbq42] at H; exact H
                                      have Nbq42 := Aside0.mk hbq42
                                      clear hbq42
                                      by_cases c43 : bq42 = true
                                      · subst c43
                                        have H1 : (if x14_5 < (x5_1.length : Int) then (if x10_3 < ((rd_L5 x5_1 x14_5).length : Int) then (if rdOf false (rd_L5 x5_1 x14_5) x10_3 = true then (if x14_5 < (x6_5.length : Int) then (antecedentref12_Comps.l4 k5 t209 x5_1 (x6_5.set (x14_5 : Int).toNat x8_2) x8_2 (wrap64 (x9_5 + 1)) x10_3 (wrap64 (x14_5 + 1))) else (none)) else (antecedentref12_Comps.l4 k5 t209 x5_1 x6_5 x8_2 x9_5 x10_3 (wrap64 (x14_5 + 1)))) else (none)) else (none)) = some r := by rw [if_pos rfl] at H; exact H
                                        clear H
                                        have H := H1
                                        clear H1
                                        by_cases c44 : x14_5 < (x5_1.length : Int)
                                        · rw [if_pos c44] at H
                                          have c44b0 : decide (x14_5 < (x5_1.length : Int)) = true := decide_eq_true c44
                                          clear c44
                                          by_cases c45 : x10_3 < ((rd_L5 x5_1 x14_5).length : Int)
                                          · rw [if_pos c45] at H
                                            have c45b0 : decide (x10_3 < ((rd_L5 x5_1 x14_5).length : Int)) = true := decide_eq_true c45
                                            clear c45
                                            obtain ⟨bq46, hbq46⟩ : ∃ b_ : Bool, b_ = (rdOf false (rd_L5 x5_1 x14_5) x10_3) := ⟨_, rfl⟩
                                            replace H : (if bq46 = true then (if x14_5 < (x6_5.length : Int) then (antecedentref12_Comps.l4 k5 t209 x5_1 (x6_5.set (x14_5 : Int).toNat x8_2) x8_2 (wrap64 (x9_5 + 1)) x10_3 (wrap64 (x14_5 + 1))) else (none)) else (antecedentref12_Comps.l4 k5 t209 x5_1 x6_5 x8_2 x9_5 x10_3 (wrap64 (x14_5 + 1)))) = some r := by rw [← hbq46] at H; exact H
                                            have Nbq46 := Aside0.mk hbq46
                                            clear hbq46
                                            by_cases c47 : bq46 = true
                                            · subst c47
                                              have H1 : (if x14_5 < (x6_5.length : Int) then (antecedentref12_Comps.l4 k5 t209 x5_1 (x6_5.set (x14_5 : Int).toNat x8_2) x8_2 (wrap64 (x9_5 + 1)) x10_3 (wrap64 (x14_5 + 1))) else (none)) = some r := by rw [if_pos rfl] at H; exact H
                                              clear H
                                              have H := H1
                                              clear H1
                                              by_cases c48 : x14_5 < (x6_5.length : Int)
                                              · rw [if_pos c48] at H
                                                have c48b0 : decide (x14_5 < (x6_5.length : Int)) = true := decide_eq_true c48
                                                clear c48
                                                obtain ⟨y229, hy229⟩ : ∃ y_ : List Int, y_ = (x6_5.set (x14_5 : Int).toNat x8_2) := ⟨_, rfl⟩
                                                replace H : (antecedentref12_Comps.l4 k5 t209 x5_1 y229 x8_2 (wrap64 (x9_5 + 1)) x10_3 (wrap64 (x14_5 + 1))) = some r := by first | (rw [hy229]; with_reducible exact H) | (have H2_ := (Option.bind_some _ _).symm.trans H; rw [hy229]; with_reducible exact H2_) | (have H2_ := (Option.bind_some _ _).symm.trans H; with_reducible exact H2_) | with_reducible exact H | (rw [hy229]; exact H) | exact H
                                                have Ny229 := Aside0.mk hy229
                                                clear hy229
                                                have H' := Aside0.mk H
                                                clear H
                                                obtain ⟨Ao50, co50, eo50⟩ := Kd.S_slice HO_5.out
                                                subst eo50
                                                have p225 : 0 ≤ (x10_3 : Int) := of_decide_eq_true (by first | (with_reducible assumption) | assumption)
                                                have q225 : x10_3 < (x5_1.length : Int) := of_decide_eq_true (by first | (with_reducible assumption) | assumption)
                                                obtain ⟨ad225, A225_0, c225_0, e225, hx225_0, hl225_0, hi225_0⟩ := at_L5 (Kd.S_reads' HO_5.out).2.2 x10_3 p225 q225
                                                cases e225
                                                obtain ⟨ce225, hce225, hMe225, hcc225⟩ := Kd.S_get HO_5.out [] x10_3 p225 (by first | exact q225 | exact of_decide_eq_true (by first | (with_reducible assumption) | assumption) | (have e_ := (Kd.S_reads' HO_5.out).1; omega))
                                                obtain ⟨ve225_0, rfl, ge225_0⟩ := hMe225
                                                have hv225_0 := hcc225 0 _ rfl
                                                rw [Nat.add_zero, show ((Kd.slice 4 Kd.bool)).sz = 1 from rfl, Nat.mul_one] at hv225_0
                                                replace hv225_0 := Option.some.inj (hv225_0.symm.trans hx225_0)
                                                rw [hv225_0] at ge225_0
                                                have HL225_0 := Aside0.mk (show Kd.R Kd.bool 4 _ _ _ _ (rd_L5 x5_1 x10_3) from ge225_0)
                                                clear hv225_0 ge225_0
                                                clear hcc225 hce225
                                                have HR225_0 := Aside0.mk hi225_0
                                                have HC225_0 := Aside0.mk hl225_0
                                                clear hi225_0 hl225_0
                                                replace p225 := eq_true p225
                                                replace q225 := eq_true q225
                                                have p226 : 0 ≤ (x14_5 : Int) := of_decide_eq_true (by first | (with_reducible assumption) | assumption)
                                                have q226 : x14_5 < ((rd_L5 x5_1 x10_3).length : Int) := of_decide_eq_true (by first | (with_reducible assumption) | assumption)
                                                obtain ⟨ad226, e226, hx226_0⟩ := Kd.at_bool (by repeat (first | (with_reducible exact HR225_0.out) | (with_reducible refine Kd.C_alloc ?_ _) | (with_reducible refine Kd.C_drewN ?_ _) | (with_reducible refine Kd.C_drew ?_) | exact HR225_0.out)) x14_5 p226 q226
                                                (try rw [← Nbq42.out] at hx226_0)
                                                (try rw [← Nbq46.out] at hx226_0)
                                                cases e226
                                                replace p226 := eq_true p226
                                                replace q226 := eq_true q226
                                                have p227 : 0 ≤ (x14_5 : Int) := of_decide_eq_true (by first | (with_reducible assumption) | assumption)
                                                have q227 : x14_5 < (x5_1.length : Int) := of_decide_eq_true (by first | (with_reducible assumption) | assumption)
                                                obtain ⟨ad227, A227_0, c227_0, e227, hx227_0, hl227_0, hi227_0⟩ := at_L5 (Kd.S_reads' HO_5.out).2.2 x14_5 p227 q227
                                                obtain rfl : ad225 = ad227 := (by injection e227)
                                                obtain ⟨ce227, hce227, hMe227, hcc227⟩ := Kd.S_get HO_5.out [] x14_5 p227 (by first | exact q227 | exact of_decide_eq_true (by first | (with_reducible assumption) | assumption) | (have e_ := (Kd.S_reads' HO_5.out).1; omega))
                                                obtain ⟨ve227_0, rfl, ge227_0⟩ := hMe227
                                                have hv227_0 := hcc227 0 _ rfl
                                                rw [Nat.add_zero, show ((Kd.slice 4 Kd.bool)).sz = 1 from rfl, Nat.mul_one] at hv227_0
                                                replace hv227_0 := Option.some.inj (hv227_0.symm.trans hx227_0)
                                                rw [hv227_0] at ge227_0
                                                have HL227_0 := Aside0.mk (show Kd.R Kd.bool 4 _ _ _ _ (rd_L5 x5_1 x14_5) from ge227_0)
                                                clear hv227_0 ge227_0
                                                clear hcc227 hce227
                                                have HR227_0 := Aside0.mk hi227_0
                                                have HC227_0 := Aside0.mk hl227_0
                                                clear hi227_0 hl227_0
                                                replace p227 := eq_true p227
                                                replace q227 := eq_true q227
                                                have p228 : 0 ≤ (x10_3 : Int) := of_decide_eq_true (by first | (with_reducible assumption) | assumption)
                                                have q228 : x10_3 < ((rd_L5 x5_1 x14_5).length : Int) := of_decide_eq_true (by first | (with_reducible assumption) | assumption)
                                                obtain ⟨ad228, e228, hx228_0⟩ := Kd.at_bool (by repeat (first | (with_reducible exact HR227_0.out) | (with_reducible refine Kd.C_alloc ?_ _) | (with_reducible refine Kd.C_drewN ?_ _) | (with_reducible refine Kd.C_drew ?_) | exact HR227_0.out)) x10_3 p228 q228
                                                (try rw [← Nbq42.out] at hx228_0)
                                                (try rw [← Nbq46.out] at hx228_0)
                                                cases e228
                                                replace p228 := eq_true p228
                                                replace q228 := eq_true q228
                                                have p49 : 0 ≤ (x14_5 : Int) := of_decide_eq_true (by first | (with_reducible assumption) | assumption)
                                                have q49 : (x14_5 : Int) < ((x6_5.length : Int) : Int) := of_decide_eq_true (by first | (with_reducible assumption) | assumption)
                                                obtain ⟨go49, co49, eo49, gb49, gl49, cl49, HG49⟩ := Kd.R_form HO_6.out (by omega)
                                                (first | cases eo49 | (injection eo49 with ea_ en_ ec_; (first | subst ea_ | (injection ea_ with ea_; subst ea_)); subst ec_; clear en_))
                                                have GB49 := Aside0.mk gb49
                                                have GG49 := Aside0.mk HG49
                                                clear gb49 gl49 HG49
                                                obtain ⟨hx49_0, hf49_0⟩ := Kd.R_celln 0 HO_6.out (x14_5 : Int) p49 q49
                                                replace p49 := eq_true p49
                                                replace q49 := eq_true q49
                                                have HP51 := Kd.R_putg HO_6.out (x14_5 : Int) x8_2
                                                go_wp2_with (first | ((with_reducible refine gate_store (t := 3) (p := 109) rfl ?_); refine store_event (t := 3) (p := 109) (v := ?vo_w52) (w1 := (wr.setCell ⟨go49, (x14_5 : Int).toNat, none⟩ (.int .i64 x8_2))) ?hg ?ho ?hn ?hr ?_; (case ho => rfl); (case hg => rfl); (case hn => rfl); (case hr => first | (go_simp; done) | (go_simp; rfl)); intro w52 hw; have hg : wr.grownBy w52 (some go49) := (by rw [hw]; exact HP51.2); have hp_ : Kd.R (Kd.int .i64) 3 w52 w.heap.size (fun _ => True) (.slice (some ⟨go49, 0, none⟩) x6_5.length co49) y229 := (by rw [hw, Ny229.out]; exact HP51.1); clear HP51; have n0_ := Aside0.mk (Kd.S_over' (v := (.slice (some ⟨go49, 0, none⟩) x6_5.length co49)) (by (with_reducible repeat (first | apply Kd.S_alloc | apply Kd.S_drewN | apply Kd.S_drew)); exact HO_5.out) (Kd.R_typed HO_6.out) (by decide) hg); have n1_ := Aside0.mk (hp_); have n2_ := Aside0.mk (Kd.R_over' (v := (.slice (some ⟨go49, 0, none⟩) x6_5.length co49)) (by (with_reducible repeat (first | apply Kd.R_alloc | apply Kd.R_drewN | apply Kd.R_drew)); exact HL225_0.out) (Kd.R_typed HO_6.out) (by decide) hg); have n3_ := Aside0.mk (Kd.R_over' (v := (.slice (some ⟨go49, 0, none⟩) x6_5.length co49)) (by (with_reducible repeat (first | apply Kd.R_alloc | apply Kd.R_drewN | apply Kd.R_drew)); exact HL227_0.out) (Kd.R_typed HO_6.out) (by decide) hg); have n4_ := Aside0.mk ((by rw [hw]; exact below_set (HB.out) GB49.out : Below w.heap.size w w52)); clear HO_5; clear HO_6; clear HL225_0; clear HL227_0; clear HB; have HO_5 := n0_; have HO_6 := n1_; have HL225_0 := n2_; have HL227_0 := n3_; have HB := n4_; clear n0_ n1_ n2_ n3_ n4_; clear hg hw hp_))
                                                go_wp2
                                                repeat (go_quiet (fail); try go_wp2)
                                                go_roundg k5
                                                case measure => have := HK1.out; have := HK2.out; have := HK3.out; have := HJ13.out; have := HK5.out; omega
                                                case rel => exact ⟨(y229), (wrap64 (x9_5 + 1)), (wrap64 (x14_5 + 1)), (by first | rfl | (simp; done) | (simp [*]; done)), (by first | rfl | (simp; done) | (simp [*]; done)), H', ⟨by have := HK1.out; have := HK2.out; have := HK3.out; have := HJ13.out; have := HK5.out; omega⟩, ⟨by (with_reducible repeat (first | apply Kd.S_alloc | apply Kd.S_drewN | apply Kd.S_drew)); exact HO_5.out⟩, ⟨by (with_reducible repeat (first | apply Kd.R_alloc | apply Kd.R_drewN | apply Kd.R_drew)); exact HO_6.out⟩, ⟨by repeat (first | (with_reducible first | exact HB.out | apply below_alloc | apply pw_below_drewN | apply below_drew1) | exact HB.out)⟩⟩
                                              · rw [if_neg c48] at H
                                                exact absurd H (by simp)
                                            · replace c47 := Bool.eq_false_iff.mpr c47
                                              subst c47
                                              have H1 : (antecedentref12_Comps.l4 k5 t209 x5_1 x6_5 x8_2 x9_5 x10_3 (wrap64 (x14_5 + 1))) = some r := by rw [if_neg (show ¬ (false = true) by decide)] at H; exact H
                                              clear H
                                              have H := H1
                                              clear H1
                                              have H' := Aside0.mk H
                                              clear H
                                              obtain ⟨Ao53, co53, eo53⟩ := Kd.S_slice HO_5.out
                                              subst eo53
                                              have p225 : 0 ≤ (x10_3 : Int) := of_decide_eq_true (by first | (with_reducible assumption) | assumption)
                                              have q225 : x10_3 < (x5_1.length : Int) := of_decide_eq_true (by first | (with_reducible assumption) | assumption)
                                              obtain ⟨ad225, A225_0, c225_0, e225, hx225_0, hl225_0, hi225_0⟩ := at_L5 (Kd.S_reads' HO_5.out).2.2 x10_3 p225 q225
                                              cases e225
                                              obtain ⟨ce225, hce225, hMe225, hcc225⟩ := Kd.S_get HO_5.out [] x10_3 p225 (by first | exact q225 | exact of_decide_eq_true (by first | (with_reducible assumption) | assumption) | (have e_ := (Kd.S_reads' HO_5.out).1; omega))
                                              obtain ⟨ve225_0, rfl, ge225_0⟩ := hMe225
                                              have hv225_0 := hcc225 0 _ rfl
                                              rw [Nat.add_zero, show ((Kd.slice 4 Kd.bool)).sz = 1 from rfl, Nat.mul_one] at hv225_0
                                              replace hv225_0 := Option.some.inj (hv225_0.symm.trans hx225_0)
                                              rw [hv225_0] at ge225_0
                                              have HL225_0 := Aside0.mk (show Kd.R Kd.bool 4 _ _ _ _ (rd_L5 x5_1 x10_3) from ge225_0)
                                              clear hv225_0 ge225_0
                                              clear hcc225 hce225
                                              have HR225_0 := Aside0.mk hi225_0
                                              have HC225_0 := Aside0.mk hl225_0
                                              clear hi225_0 hl225_0
                                              replace p225 := eq_true p225
                                              replace q225 := eq_true q225
                                              have p226 : 0 ≤ (x14_5 : Int) := of_decide_eq_true (by first | (with_reducible assumption) | assumption)
                                              have q226 : x14_5 < ((rd_L5 x5_1 x10_3).length : Int) := of_decide_eq_true (by first | (with_reducible assumption) | assumption)
                                              obtain ⟨ad226, e226, hx226_0⟩ := Kd.at_bool (by repeat (first | (with_reducible exact HR225_0.out) | (with_reducible refine Kd.C_alloc ?_ _) | (with_reducible refine Kd.C_drewN ?_ _) | (with_reducible refine Kd.C_drew ?_) | exact HR225_0.out)) x14_5 p226 q226
                                              (try rw [← Nbq42.out] at hx226_0)
                                              (try rw [← Nbq46.out] at hx226_0)
                                              cases e226
                                              replace p226 := eq_true p226
                                              replace q226 := eq_true q226
                                              have p227 : 0 ≤ (x14_5 : Int) := of_decide_eq_true (by first | (with_reducible assumption) | assumption)
                                              have q227 : x14_5 < (x5_1.length : Int) := of_decide_eq_true (by first | (with_reducible assumption) | assumption)
                                              obtain ⟨ad227, A227_0, c227_0, e227, hx227_0, hl227_0, hi227_0⟩ := at_L5 (Kd.S_reads' HO_5.out).2.2 x14_5 p227 q227
                                              obtain rfl : ad225 = ad227 := (by injection e227)
                                              obtain ⟨ce227, hce227, hMe227, hcc227⟩ := Kd.S_get HO_5.out [] x14_5 p227 (by first | exact q227 | exact of_decide_eq_true (by first | (with_reducible assumption) | assumption) | (have e_ := (Kd.S_reads' HO_5.out).1; omega))
                                              obtain ⟨ve227_0, rfl, ge227_0⟩ := hMe227
                                              have hv227_0 := hcc227 0 _ rfl
                                              rw [Nat.add_zero, show ((Kd.slice 4 Kd.bool)).sz = 1 from rfl, Nat.mul_one] at hv227_0
                                              replace hv227_0 := Option.some.inj (hv227_0.symm.trans hx227_0)
                                              rw [hv227_0] at ge227_0
                                              have HL227_0 := Aside0.mk (show Kd.R Kd.bool 4 _ _ _ _ (rd_L5 x5_1 x14_5) from ge227_0)
                                              clear hv227_0 ge227_0
                                              clear hcc227 hce227
                                              have HR227_0 := Aside0.mk hi227_0
                                              have HC227_0 := Aside0.mk hl227_0
                                              clear hi227_0 hl227_0
                                              replace p227 := eq_true p227
                                              replace q227 := eq_true q227
                                              have p228 : 0 ≤ (x10_3 : Int) := of_decide_eq_true (by first | (with_reducible assumption) | assumption)
                                              have q228 : x10_3 < ((rd_L5 x5_1 x14_5).length : Int) := of_decide_eq_true (by first | (with_reducible assumption) | assumption)
                                              obtain ⟨ad228, e228, hx228_0⟩ := Kd.at_bool (by repeat (first | (with_reducible exact HR227_0.out) | (with_reducible refine Kd.C_alloc ?_ _) | (with_reducible refine Kd.C_drewN ?_ _) | (with_reducible refine Kd.C_drew ?_) | exact HR227_0.out)) x10_3 p228 q228
                                              (try rw [← Nbq42.out] at hx228_0)
                                              (try rw [← Nbq46.out] at hx228_0)
                                              cases e228
                                              replace p228 := eq_true p228
                                              replace q228 := eq_true q228
                                              go_wp2
                                              go_wp2
                                              repeat (go_quiet (fail); try go_wp2)
                                              go_roundg k5
                                              case measure => have := HK1.out; have := HK2.out; have := HK3.out; have := HJ13.out; have := HK5.out; omega
                                              case rel => exact ⟨(x6_5), (x9_5), (wrap64 (x14_5 + 1)), (by first | rfl | (simp; done) | (simp [*]; done)), (by first | rfl | (simp; done) | (simp [*]; done)), H', ⟨by have := HK1.out; have := HK2.out; have := HK3.out; have := HJ13.out; have := HK5.out; omega⟩, ⟨by (with_reducible repeat (first | apply Kd.S_alloc | apply Kd.S_drewN | apply Kd.S_drew)); exact HO_5.out⟩, ⟨by (with_reducible repeat (first | apply Kd.R_alloc | apply Kd.R_drewN | apply Kd.R_drew)); exact HO_6.out⟩, ⟨by repeat (first | (with_reducible first | exact HB.out | apply below_alloc | apply pw_below_drewN | apply below_drew1) | exact HB.out)⟩⟩
                                          · rw [if_neg c45] at H
                                            exact absurd H (by simp)
                                        · rw [if_neg c44] at H
                                          exact absurd H (by simp)
                                      · replace c43 := Bool.eq_false_iff.mpr c43
                                        subst c43
                                        have H1 : (antecedentref12_Comps.l4 k5 t209 x5_1 x6_5 x8_2 x9_5 x10_3 (wrap64 (x14_5 + 1))) = some r := by rw [if_neg (show ¬ (false = true) by decide)] at H; exact H
                                        clear H
                                        have H := H1
                                        clear H1
                                        have H' := Aside0.mk H
                                        clear H
                                        obtain ⟨Ao54, co54, eo54⟩ := Kd.S_slice HO_5.out
                                        subst eo54
                                        have p225 : 0 ≤ (x10_3 : Int) := of_decide_eq_true (by first | (with_reducible assumption) | assumption)
                                        have q225 : x10_3 < (x5_1.length : Int) := of_decide_eq_true (by first | (with_reducible assumption) | assumption)
                                        obtain ⟨ad225, A225_0, c225_0, e225, hx225_0, hl225_0, hi225_0⟩ := at_L5 (Kd.S_reads' HO_5.out).2.2 x10_3 p225 q225
                                        cases e225
                                        obtain ⟨ce225, hce225, hMe225, hcc225⟩ := Kd.S_get HO_5.out [] x10_3 p225 (by first | exact q225 | exact of_decide_eq_true (by first | (with_reducible assumption) | assumption) | (have e_ := (Kd.S_reads' HO_5.out).1; omega))
                                        obtain ⟨ve225_0, rfl, ge225_0⟩ := hMe225
                                        have hv225_0 := hcc225 0 _ rfl
                                        rw [Nat.add_zero, show ((Kd.slice 4 Kd.bool)).sz = 1 from rfl, Nat.mul_one] at hv225_0
                                        replace hv225_0 := Option.some.inj (hv225_0.symm.trans hx225_0)
                                        rw [hv225_0] at ge225_0
                                        have HL225_0 := Aside0.mk (show Kd.R Kd.bool 4 _ _ _ _ (rd_L5 x5_1 x10_3) from ge225_0)
                                        clear hv225_0 ge225_0
                                        clear hcc225 hce225
                                        have HR225_0 := Aside0.mk hi225_0
                                        have HC225_0 := Aside0.mk hl225_0
                                        clear hi225_0 hl225_0
                                        replace p225 := eq_true p225
                                        replace q225 := eq_true q225
                                        have p226 : 0 ≤ (x14_5 : Int) := of_decide_eq_true (by first | (with_reducible assumption) | assumption)
                                        have q226 : x14_5 < ((rd_L5 x5_1 x10_3).length : Int) := of_decide_eq_true (by first | (with_reducible assumption) | assumption)
                                        obtain ⟨ad226, e226, hx226_0⟩ := Kd.at_bool (by repeat (first | (with_reducible exact HR225_0.out) | (with_reducible refine Kd.C_alloc ?_ _) | (with_reducible refine Kd.C_drewN ?_ _) | (with_reducible refine Kd.C_drew ?_) | exact HR225_0.out)) x14_5 p226 q226
                                        (try rw [← Nbq42.out] at hx226_0)
                                        cases e226
                                        replace p226 := eq_true p226
                                        replace q226 := eq_true q226
                                        go_wp2
                                        go_wp2
                                        repeat (go_quiet (fail); try go_wp2)
                                        go_roundg k5
                                        case measure => have := HK1.out; have := HK2.out; have := HK3.out; have := HJ13.out; have := HK5.out; omega
                                        case rel => exact ⟨(x6_5), (x9_5), (wrap64 (x14_5 + 1)), (by first | rfl | (simp; done) | (simp [*]; done)), (by first | rfl | (simp; done) | (simp [*]; done)), H', ⟨by have := HK1.out; have := HK2.out; have := HK3.out; have := HJ13.out; have := HK5.out; omega⟩, ⟨by (with_reducible repeat (first | apply Kd.S_alloc | apply Kd.S_drewN | apply Kd.S_drew)); exact HO_5.out⟩, ⟨by (with_reducible repeat (first | apply Kd.R_alloc | apply Kd.R_drewN | apply Kd.R_drew)); exact HO_6.out⟩, ⟨by repeat (first | (with_reducible first | exact HB.out | apply below_alloc | apply pw_below_drewN | apply below_drew1) | exact HB.out)⟩⟩
                                    · rw [if_neg c41] at H
                                      exact absurd H (by simp)
                                  · rw [if_neg c40] at H
                                    exact absurd H (by simp)
                                · rw [if_neg c39] at H
                                  exact absurd H (by simp)
                              · rw [if_neg c38] at H
                                exact absurd H (by simp)
                            · rw [if_neg c37] at H
                              have c37b0 : decide (x14_5 < t209) = false := decide_eq_false c37
                              clear c37
                              have H' := Aside0.mk H
                              clear H
                              go_wp2
                              go_wp2
                              repeat (go_quiet (fail); try go_wp2)
                              go_roundg k5
                              case measure => have := HK1.out; have := HK2.out; have := HK3.out; have := HJ13.out; have := HK5.out; omega
                              case rel => exact ⟨(x6_5), (wrap64 (x8_2 + 1)), (x9_5), (by first | rfl | (simp; done) | (simp [*]; done)), (by first | rfl | (simp; done) | (simp [*]; done)), H', ⟨by have := HK1.out; have := HK2.out; have := HK3.out; have := HJ13.out; have := HK5.out; omega⟩, ⟨by (with_reducible repeat (first | apply Kd.S_alloc | apply Kd.S_drewN | apply Kd.S_drew)); exact HO_5.out⟩, ⟨by (with_reducible repeat (first | apply Kd.R_alloc | apply Kd.R_drewN | apply Kd.R_drew)); exact HO_6.out⟩, ⟨by repeat (first | (with_reducible first | exact HB.out | apply below_alloc | apply pw_below_drewN | apply below_drew1) | exact HB.out)⟩⟩
            · rw [if_neg c13] at H
              have c13b0 : decide (x9_2 < t209) = false := decide_eq_false c13
              clear c13
              obtain rfl := Option.some.inj H
              go_wp2
              go_wp2
              repeat (go_quiet (fail); try go_wp2)
              go_ret
              exact ⟨_, by first | rfl | (simp [errW_none, errW_some] <;> rfl) | (simp [*, errW_none, errW_some] <;> rfl), by (with_reducible repeat (first | apply Kd.R_alloc | apply Kd.R_drewN | apply Kd.R_drew)); exact HO_6.out, by repeat (first | (with_reducible first | exact HB.out | apply below_alloc | apply pw_below_drewN | apply below_drew1) | exact HB.out)⟩

end Go.Proofs.Ytigpeemgnocdhaa.PZ
