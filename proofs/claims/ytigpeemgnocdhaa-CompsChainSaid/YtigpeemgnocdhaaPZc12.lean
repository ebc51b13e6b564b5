/- Printed by a turned copy of the printer (wip/mkprint.py): Go functions as Lean functions, with a proof of each. -/
import Derived.Test.YtigpeemgnocdhaaPZx0
import Derived.Test.YtigpeemgnocdhaaPZx2
import Derived.Test.YtigpeemgnocdhaaPZx3
import Derived.Test.YtigpeemgnocdhaaBoth
namespace Go.Proofs.Ytigpeemgnocdhaa.PZ
open Go.RowKit Go.Proofs.YtigpeemgnocdhaaW.PrintWords Go.Proofs.YtigpeemgnocdhaaW.PrintLast Go.Proofs.YtigpeemgnocdhaaW.PrintMore
attribute [local go_sem] max2_int min2_int max_two min_two max_three min_three max_four min_four   -- for this text's walks alone
set_option linter.unusedVariables false
set_option linter.unusedSimpArgs false

/-! ### antecedentlaw12_CompsChain: function 7 -/
mutual
def antecedentlaw12_CompsChain.j0 : Nat → Int → Bool → Option (Bool)
  | 0, _, _ => none
  | k + 1, x0, x14 => if x14 = true then ((antecedentlaw12_awake.f k).bind fun t353 => (some t353)) else (antecedentlaw12_CompsChain.l0 k (wrap64 (x0)) ([] : List (S31)) 1)
def antecedentlaw12_CompsChain.l0 : Nat → Int → List (S31) → Int → Option (Bool)
  | 0, _, _, _ => none
  | k + 1, x3, x4, x5 => if x5 < x3 then (if x4.length < 8796093022208 then (antecedentlaw12_CompsChain.l0 k x3 (x4 ++ [(⟨wrap64 (x5 - 1), x5⟩ : S31)]) (wrap64 (x5 + 1))) else (none)) else ((comps_Comps.f k x3 x4).bind fun t357 => (if x4.length < 8796093022208 then ((comps_Comps.f k x3 (x4 ++ [(⟨wrap64 (x3 - 1), 0⟩ : S31)])).bind fun t363 => (if (t357.length : Int) = x3 then (antecedentlaw12_CompsChain.j2 k x3 x4 t357 t363 ((t363.length : Int) != x3)) else (antecedentlaw12_CompsChain.j2 k x3 x4 t357 t363 true))) else (none)))
def antecedentlaw12_CompsChain.j2 : Nat → Int → List (S31) → List Int → List Int → Bool → Option (Bool)
  | 0, _, _, _, _, _ => none
  | k + 1, x3, x4, x6, x7, x50 => if x50 = true then (some false) else (antecedentlaw12_CompsChain.l1 k x3 x4 x6 x7 x3 0)
def antecedentlaw12_CompsChain.l1 : Nat → Int → List (S31) → List Int → List Int → Int → Int → Option (Bool)
  | 0, _, _, _, _, _, _ => none
  | k + 1, x3, x4, x6, x7, x51, x52 => if x52 < x51 then (if 0 ≤ x52 then (if x52 < (x6.length : Int) then (if (rd x6 x52) = (wrap64 ((wrap64 (x3 - 1)) - x52)) then (if x52 < (x7.length : Int) then (if (rd x7 x52) = 0 then (antecedentlaw12_CompsChain.l1 k x3 x4 x6 x7 x51 (wrap64 (x52 + 1))) else (some false)) else (none)) else (some false)) else (none)) else (none)) else ((comps_Reach.f k x3 x4 0).bind fun t368 => (if (t368.length : Int) = x3 then ((comps_Reach.f k x3 x4 x3).bind fun t371 => (if (t371.length : Int) = 0 then ((comps_Comps.f k (-1) x4).bind fun t374 => (some ((t374.length : Int) == 0))) else (some false))) else (some false)))
end
def antecedentlaw12_CompsChain.f (k : Nat) (a0 : Int) : Option (Bool) := (antecedentlaw12_awake.f k).bind fun t352 => (if t352 = true then (antecedentlaw12_CompsChain.j0 k a0 (a0 == 0)) else (antecedentlaw12_CompsChain.j0 k a0 true))
theorem antecedentlaw12_CompsChain.mono_l : ∀ k, (∀ y0 y1, LeO (antecedentlaw12_CompsChain.j0 k y0 y1) (antecedentlaw12_CompsChain.j0 (k + 1) y0 y1)) ∧ (∀ y0 y1 y2, LeO (antecedentlaw12_CompsChain.l0 k y0 y1 y2) (antecedentlaw12_CompsChain.l0 (k + 1) y0 y1 y2)) ∧ (∀ y0 y1 y2 y3 y4, LeO (antecedentlaw12_CompsChain.j2 k y0 y1 y2 y3 y4) (antecedentlaw12_CompsChain.j2 (k + 1) y0 y1 y2 y3 y4)) ∧ (∀ y0 y1 y2 y3 y4 y5, LeO (antecedentlaw12_CompsChain.l1 k y0 y1 y2 y3 y4 y5) (antecedentlaw12_CompsChain.l1 (k + 1) y0 y1 y2 y3 y4 y5))
  | 0 => ⟨fun _ _ r h => by simp [antecedentlaw12_CompsChain.j0] at h, fun _ _ _ r h => by simp [antecedentlaw12_CompsChain.l0] at h, fun _ _ _ _ _ r h => by simp [antecedentlaw12_CompsChain.j2] at h, fun _ _ _ _ _ _ r h => by simp [antecedentlaw12_CompsChain.l1] at h⟩
  | k + 1 => by
    obtain ⟨ih0, ih1, ih2, ih3⟩ := antecedentlaw12_CompsChain.mono_l k
    refine ⟨?_, ?_, ?_, ?_⟩
    · intro y0 y1
      unfold antecedentlaw12_CompsChain.j0
      repeat' first
      | (with_reducible exact ih0 _ _)
      | (with_reducible exact ih1 _ _ _)
      | (with_reducible exact ih2 _ _ _ _ _)
      | (with_reducible exact ih3 _ _ _ _ _ _)
      | (with_reducible exact antecedentlaw12_awake.mono _)
      | (with_reducible exact comps_Comps.mono _ _ _)
      | (with_reducible exact comps_Reach.mono _ _ _ _)
      | (with_reducible exact LeO.refl _)
      | (with_reducible exact LeO.none _)
      | (with_reducible refine LeO.ite ?_ ?_)
      | (with_reducible refine LeO.bind ?_ (fun _ => ?_))
      | exact ih0 _ _
      | exact ih1 _ _ _
      | exact ih2 _ _ _ _ _
      | exact ih3 _ _ _ _ _ _
      | exact antecedentlaw12_awake.mono _
      | exact comps_Comps.mono _ _ _
      | exact comps_Reach.mono _ _ _ _
      | exact LeO.none _
      | refine LeO.ite ?_ ?_
      | refine LeO.bind ?_ (fun _ => ?_)
    · intro y0 y1 y2
      unfold antecedentlaw12_CompsChain.l0
      repeat' first
      | (with_reducible exact ih0 _ _)
      | (with_reducible exact ih1 _ _ _)
      | (with_reducible exact ih2 _ _ _ _ _)
      | (with_reducible exact ih3 _ _ _ _ _ _)
      | (with_reducible exact antecedentlaw12_awake.mono _)
      | (with_reducible exact comps_Comps.mono _ _ _)
      | (with_reducible exact comps_Reach.mono _ _ _ _)
      | (with_reducible exact LeO.refl _)
      | (with_reducible exact LeO.none _)
      | (with_reducible refine LeO.ite ?_ ?_)
      | (with_reducible refine LeO.bind ?_ (fun _ => ?_))
      | exact ih0 _ _
      | exact ih1 _ _ _
      | exact ih2 _ _ _ _ _
      | exact ih3 _ _ _ _ _ _
      | exact antecedentlaw12_awake.mono _
      | exact comps_Comps.mono _ _ _
      | exact comps_Reach.mono _ _ _ _
      | exact LeO.none _
      | refine LeO.ite ?_ ?_
      | refine LeO.bind ?_ (fun _ => ?_)
    · intro y0 y1 y2 y3 y4
      unfold antecedentlaw12_CompsChain.j2
      repeat' first
      | (with_reducible exact ih0 _ _)
      | (with_reducible exact ih1 _ _ _)
      | (with_reducible exact ih2 _ _ _ _ _)
      | (with_reducible exact ih3 _ _ _ _ _ _)
      | (with_reducible exact antecedentlaw12_awake.mono _)
      | (with_reducible exact comps_Comps.mono _ _ _)
      | (with_reducible exact comps_Reach.mono _ _ _ _)
      | (with_reducible exact LeO.refl _)
      | (with_reducible exact LeO.none _)
      | (with_reducible refine LeO.ite ?_ ?_)
      | (with_reducible refine LeO.bind ?_ (fun _ => ?_))
      | exact ih0 _ _
      | exact ih1 _ _ _
      | exact ih2 _ _ _ _ _
      | exact ih3 _ _ _ _ _ _
      | exact antecedentlaw12_awake.mono _
      | exact comps_Comps.mono _ _ _
      | exact comps_Reach.mono _ _ _ _
      | exact LeO.none _
      | refine LeO.ite ?_ ?_
      | refine LeO.bind ?_ (fun _ => ?_)
    · intro y0 y1 y2 y3 y4 y5
      unfold antecedentlaw12_CompsChain.l1
      repeat' first
      | (with_reducible exact ih0 _ _)
      | (with_reducible exact ih1 _ _ _)
      | (with_reducible exact ih2 _ _ _ _ _)
      | (with_reducible exact ih3 _ _ _ _ _ _)
      | (with_reducible exact antecedentlaw12_awake.mono _)
      | (with_reducible exact comps_Comps.mono _ _ _)
      | (with_reducible exact comps_Reach.mono _ _ _ _)
      | (with_reducible exact LeO.refl _)
      | (with_reducible exact LeO.none _)
      | (with_reducible refine LeO.ite ?_ ?_)
      | (with_reducible refine LeO.bind ?_ (fun _ => ?_))
      | exact ih0 _ _
      | exact ih1 _ _ _
      | exact ih2 _ _ _ _ _
      | exact ih3 _ _ _ _ _ _
      | exact antecedentlaw12_awake.mono _
      | exact comps_Comps.mono _ _ _
      | exact comps_Reach.mono _ _ _ _
      | exact LeO.none _
      | refine LeO.ite ?_ ?_
      | refine LeO.bind ?_ (fun _ => ?_)
theorem antecedentlaw12_CompsChain.mono : ∀ a0 k, LeO (antecedentlaw12_CompsChain.f k a0) (antecedentlaw12_CompsChain.f (k + 1) a0) := by
  intro a0 k
  obtain ⟨ih0, ih1, ih2, ih3⟩ := antecedentlaw12_CompsChain.mono_l k
  unfold antecedentlaw12_CompsChain.f
  repeat' first
      | (with_reducible exact ih0 _ _)
      | (with_reducible exact ih1 _ _ _)
      | (with_reducible exact ih2 _ _ _ _ _)
      | (with_reducible exact ih3 _ _ _ _ _ _)
      | (with_reducible exact antecedentlaw12_awake.mono _)
      | (with_reducible exact comps_Comps.mono _ _ _)
      | (with_reducible exact comps_Reach.mono _ _ _ _)
      | (with_reducible exact LeO.refl _)
      | (with_reducible exact LeO.none _)
      | (with_reducible refine LeO.ite ?_ ?_)
      | (with_reducible refine LeO.bind ?_ (fun _ => ?_))
      | exact ih0 _ _
      | exact ih1 _ _ _
      | exact ih2 _ _ _ _ _
      | exact ih3 _ _ _ _ _ _
      | exact antecedentlaw12_awake.mono _
      | exact comps_Comps.mono _ _ _
      | exact comps_Reach.mono _ _ _ _
      | exact LeO.none _
      | refine LeO.ite ?_ ?_
      | refine LeO.bind ?_ (fun _ => ?_)
set_option maxHeartbeats 8000000 in
set_option maxRecDepth 100000 in
theorem antecedentlaw12_CompsChain.calls (k : Nat) (a0 : Int) (r : Bool) (w : World) (h : antecedentlaw12_CompsChain.f k a0 = some r) :
    Calls Try.prog 7 #[.int .u8 a0] w fun e w' => e = .returned (.bool r) ∧ Below w.heap.size w w' := by
  have hu31 := Try.underlying31
  have HB := Aside0.mk (Below.refl w.heap.size w)
  have H : ((antecedentlaw12_awake.f k).bind fun t352 => (if t352 = true then (antecedentlaw12_CompsChain.j0 k a0 (a0 == 0)) else (antecedentlaw12_CompsChain.j0 k a0 true))) = some r := h
  clear h
  have HC2 := Aside0.mk H
  clear H
  go_enter Try.func7, Try.ntmps7
  go_upto_region 1 with (fail)
  go_cut [14] (fun v14 wc => ∃ (kq : Nat) (x14_1 : Bool), v14 = .bool x14_1 ∧ Aside0 (antecedentlaw12_CompsChain.j0 kq a0 x14_1 = some r) ∧ Aside0 (kq ≤ k) ∧ Aside0 (Below w.heap.size w wc))
  case first =>
    have H := HC2.out
    clear HC2
    replace H := Option.bind_eq_some_iff.mp H
    obtain ⟨t352, A30, H⟩ := H
    replace H : (if t352 = true then (antecedentlaw12_CompsChain.j0 k a0 (a0 == 0)) else (antecedentlaw12_CompsChain.j0 k a0 true)) = some r := H
    have A3 := Aside0.mk A30
    clear A30
    by_cases c4 : t352 = true
    · subst c4
      have H1 : (antecedentlaw12_CompsChain.j0 k a0 (a0 == 0)) = some r := by rw [if_pos rfl] at H; exact H
      clear H
      have H := H1
      clear H1
      have H' := Aside0.mk H
      clear H
      go_wp2_with (first | ((with_reducible refine gate_callee (f := 9) rfl ?_); refine goesL_ (some 9) rfl rfl Try.func9 (by kernel_rfl) rfl #[] rfl (by (try simp only [List.map_toArray, List.map_cons, List.map_nil]); first | done | rfl | (simp only [List.length_drop, List.length_take]; rfl)) ?_; (with_reducible refine (antecedentlaw12_awake.calls k  true _ A3.out).mono ?_); rintro e w5 ⟨rfl, hb⟩; refine ⟨_, rfl, ?_⟩; have n0_ := Aside0.mk (below_step (by repeat (first | (with_reducible first | exact HB.out | apply below_alloc | apply pw_below_drewN | apply below_drew1) | exact HB.out)) hb); clear HB; have HB := n0_; clear n0_; (try clear hb); (try clear hb2); (try clear hk); (try clear hi)))
      go_wp2
      repeat (go_quiet (fail); try go_wp2)
      go_meet
      case rel => exact ⟨_, ((a0 == 0)), (by first | rfl | (simp; done) | (simp [*]; done)), H', ⟨by first | omega | exact Nat.le_refl _⟩, ⟨by repeat (first | (with_reducible first | exact HB.out | apply below_alloc | apply pw_below_drewN | apply below_drew1) | exact HB.out)⟩⟩
    · replace c4 := Bool.eq_false_iff.mpr c4
      subst c4
      have H1 : (antecedentlaw12_CompsChain.j0 k a0 true) = some r := by rw [if_neg (show ¬ (false = true) by decide)] at H; exact H
      clear H
      have H := H1
      clear H1
      have H' := Aside0.mk H
      clear H
      go_wp2_with (first | ((with_reducible refine gate_callee (f := 9) rfl ?_); refine goesL_ (some 9) rfl rfl Try.func9 (by kernel_rfl) rfl #[] rfl (by (try simp only [List.map_toArray, List.map_cons, List.map_nil]); first | done | rfl | (simp only [List.length_drop, List.length_take]; rfl)) ?_; (with_reducible refine (antecedentlaw12_awake.calls k  false _ A3.out).mono ?_); rintro e w6 ⟨rfl, hb⟩; refine ⟨_, rfl, ?_⟩; have n0_ := Aside0.mk (below_step (by repeat (first | (with_reducible first | exact HB.out | apply below_alloc | apply pw_below_drewN | apply below_drew1) | exact HB.out)) hb); clear HB; have HB := n0_; clear n0_; (try clear hb); (try clear hb2); (try clear hk); (try clear hi)))
      go_wp2
      repeat (go_quiet (fail); try go_wp2)
      go_meet
      case rel => exact ⟨_, (true), (by first | rfl | (simp; done) | (simp [*]; done)), H', ⟨by first | omega | exact Nat.le_refl _⟩, ⟨by repeat (first | (with_reducible first | exact HB.out | apply below_alloc | apply pw_below_drewN | apply below_drew1) | exact HB.out)⟩⟩
  case rest =>
    clear HC2
    try clear p2
    try clear c4
    obtain ⟨kq, x14_1, rfl, HA, HJ1, HB⟩ := hcut
    cases kq with
    | zero => exact absurd HA.out (by simp [antecedentlaw12_CompsChain.j0])
    | succ kj1 =>
      have H := HA.out
      clear HA
      simp only [antecedentlaw12_CompsChain.j0] at H
      by_cases c7 : x14_1 = true
      · subst c7
        have H1 : ((antecedentlaw12_awake.f kj1).bind fun t353 => (some t353)) = some r := by rw [if_pos rfl] at H; exact H
        clear H
        have H := H1
        clear H1
        replace H := Option.bind_eq_some_iff.mp H
        obtain ⟨t353, A80, H⟩ := H
        replace H : (some t353) = some r := H
        have A8 := Aside0.mk A80
        clear A80
        obtain rfl := Option.some.inj H
        go_wp2_with (first | ((with_reducible refine gate_callee (f := 9) rfl ?_); refine goesL_ (some 15) rfl rfl Try.func9 (by kernel_rfl) rfl #[] rfl (by (try simp only [List.map_toArray, List.map_cons, List.map_nil]); first | done | rfl | (simp only [List.length_drop, List.length_take]; rfl)) ?_; (with_reducible refine (antecedentlaw12_awake.calls kj1  t353 _ A8.out).mono ?_); rintro e w9 ⟨rfl, hb⟩; refine ⟨_, rfl, ?_⟩; have n0_ := Aside0.mk (below_step (by repeat (first | (with_reducible first | exact HB.out | apply below_alloc | apply pw_below_drewN | apply below_drew1) | exact HB.out)) hb); clear HB; have HB := n0_; clear n0_; (try clear hb); (try clear hb2); (try clear hk); (try clear hi)))
        go_wp2
        repeat (go_quiet (fail); try go_wp2)
        go_ret
        exact ⟨by first | rfl | (simp [errW_none, errW_some] <;> rfl) | (simp [*, errW_none, errW_some] <;> rfl), by repeat (first | (with_reducible first | exact HB.out | apply below_alloc | apply pw_below_drewN | apply below_drew1) | exact HB.out)⟩
      · replace c7 := Bool.eq_false_iff.mpr c7
        subst c7
        have H1 : (antecedentlaw12_CompsChain.l0 kj1 (wrap64 (a0)) ([] : List (S31)) 1) = some r := by rw [if_neg (show ¬ (false = true) by decide)] at H; exact H
        clear H
        have H := H1
        clear H1
        have H' := Aside0.mk H
        clear H
        go_wp2
        go_wp2
        repeat (go_quiet (fail); try go_wp2)
        go_loopg [4, 5] kj1 (fun kq v4 v5 w' => ∃ (x4_2 : List (S31)) (x5_2 : Int), v5 = .int .i64 x5_2 ∧ Aside0 (antecedentlaw12_CompsChain.l0 kq (wrap64 (a0)) x4_2 x5_2 = some r) ∧ Aside0 (kq ≤ kj1) ∧ Aside0 (Kd.R k31 31 w' w.heap.size (fun _ => True) v4 x4_2) ∧ Aside0 (Below w.heap.size w w'))
        case atStart => exact ⟨(([] : List (S31))), (1), (by first | rfl | (simp; done) | (simp [*]; done)), H', ⟨Nat.le_refl _⟩, ⟨by first | exact Kd.R_nil _ _ _ _ _ | exact Kd.N_nil _ _ _ _ _ | exact Kd.V_nil _ _ _ _ _ | exact Kd.Q_nil _ _ _ _ _ | exact Kd.S_nil _ _ _ _ _⟩, ⟨by repeat (first | (with_reducible first | exact HB.out | apply below_alloc | apply pw_below_drewN | apply below_drew1) | exact HB.out)⟩⟩
        case round =>
          clear H'
          try clear p2
          try clear c4
          try clear p6
          try clear c7
          try clear c9
          try clear p2
          obtain ⟨x4_2, x5_2, rfl, HA, HK2, HO_4, HB⟩ := hrel
          cases gk with
          | zero => exact absurd HA.out (by simp [antecedentlaw12_CompsChain.l0])
          | succ k2 =>
            have H := HA.out
            clear HA
            simp only [antecedentlaw12_CompsChain.l0] at H
            by_cases c10 : x5_2 < (wrap64 (a0))
            · rw [if_pos c10] at H
              have c10b0 : decide (x5_2 < (wrap64 (a0))) = true := decide_eq_true c10
              clear c10
              by_cases c11 : x4_2.length < 8796093022208
              · rw [if_pos c11] at H
                have LMc11 := Aside0.mk c11
                clear c11
                obtain ⟨y354, hy354⟩ : ∃ y_ : List (S31), y_ = (x4_2 ++ [(⟨wrap64 (x5_2 - 1), x5_2⟩ : S31)]) := ⟨_, rfl⟩
                replace H : (antecedentlaw12_CompsChain.l0 k2 (wrap64 (a0)) y354 (wrap64 (x5_2 + 1))) = some r := by first | (rw [hy354]; with_reducible exact H) | (have H2_ := (Option.bind_some _ _).symm.trans H; rw [hy354]; with_reducible exact H2_) | (have H2_ := (Option.bind_some _ _).symm.trans H; with_reducible exact H2_) | with_reducible exact H | (rw [hy354]; exact H) | exact H
                have Ny354 := Aside0.mk hy354
                clear hy354
                have H' := Aside0.mk H
                clear H
                go_wp2_with (first | ((with_reducible refine gate_builtin (b := .append) (xs := #[.tmp 23, .tmp 28]) rfl ?_); (try (refine gate_guard (by rfl) ?_; dsimp only)); at_builtin; refine Kd.R_append k31 (w0 := w) w.heap.size rfl (.tmp 23) (.tmp 28) 22 31 (.agg #[(.int .i64 0), (.int .i64 0)]) 16 rfl Try.underlying22 info31 rfl (by decide) (by omega) u4 x4_2 (⟨wrap64 (x5_2 - 1), x5_2⟩ : S31) [.int .i64 (wrap64 (x5_2 - 1)), .int .i64 x5_2] (fun _ => True) (fun _ => False) rfl rfl ?aP (fun _ hk => hk.elim) ?aF ?aO ?aB ?aS ?aL ?_; (case aP => exact k31_mkM _ _ _ (⟨wrap64 (x5_2 - 1), x5_2⟩ : S31)); (case aB => exact (by repeat (first | (with_reducible first | exact HB.out | apply below_alloc | apply pw_below_drewN | apply below_drew1) | exact HB.out))); (case aF => exact (fun _ _ => trivial)); (case aO => exact (by (with_reducible repeat (first | apply Kd.R_alloc | apply Kd.R_drewN | apply Kd.R_drew)); exact HO_4.out)); (case aS => exact (below_size (by repeat (first | (with_reducible first | exact HB.out | apply below_alloc | apply pw_below_drewN | apply below_drew1) | exact HB.out)))); (case aL => have := LMc11.out; omega); intro v355 w12 ho hb hg hat; rw [← Ny354.out] at ho; have n0_ := Aside0.mk (hb); have n1_ := Aside0.mk (ho); clear HB; clear HO_4; have HB := n0_; have HO356 := n1_; clear n0_ n1_; clear ho hb hg hat))
                go_wp2
                repeat (go_quiet (fail); try go_wp2)
                go_roundg k2
                case measure => have := HJ1.out; have := HK2.out; omega
                case rel => exact ⟨(y354), (wrap64 (x5_2 + 1)), (by first | rfl | (simp; done) | (simp [*]; done)), H', ⟨by have := HJ1.out; have := HK2.out; omega⟩, ⟨by (with_reducible repeat (first | apply Kd.R_alloc | apply Kd.R_drewN | apply Kd.R_drew)); exact HO356.out⟩, ⟨by repeat (first | (with_reducible first | exact HB.out | apply below_alloc | apply pw_below_drewN | apply below_drew1) | exact HB.out)⟩⟩
              · rw [if_neg c11] at H
                exact absurd H (by simp)
            · rw [if_neg c10] at H
              have c10b0 : decide (x5_2 < (wrap64 (a0))) = false := decide_eq_false c10
              clear c10
              replace H := Option.bind_eq_some_iff.mp H
              obtain ⟨t357, A130, H⟩ := H
              replace H : (if x4_2.length < 8796093022208 then ((comps_Comps.f k2 (wrap64 (a0)) (x4_2 ++ [(⟨wrap64 ((wrap64 (a0)) - 1), 0⟩ : S31)])).bind fun t363 => (if (t357.length : Int) = (wrap64 (a0)) then (antecedentlaw12_CompsChain.j2 k2 (wrap64 (a0)) x4_2 t357 t363 ((t363.length : Int) != (wrap64 (a0)))) else (antecedentlaw12_CompsChain.j2 k2 (wrap64 (a0)) x4_2 t357 t363 true))) else (none)) = some r := H
              have A13 := Aside0.mk A130
              clear A130
              by_cases c14 : x4_2.length < 8796093022208
              · rw [if_pos c14] at H
                have LMc14 := Aside0.mk c14
                clear c14
                obtain ⟨y360, hy360⟩ : ∃ y_ : List (S31), y_ = (x4_2 ++ [(⟨wrap64 ((wrap64 (a0)) - 1), 0⟩ : S31)]) := ⟨_, rfl⟩
                replace H : ((comps_Comps.f k2 (wrap64 (a0)) y360).bind fun t363 => (if (t357.length : Int) = (wrap64 (a0)) then (antecedentlaw12_CompsChain.j2 k2 (wrap64 (a0)) x4_2 t357 t363 ((t363.length : Int) != (wrap64 (a0)))) else (antecedentlaw12_CompsChain.j2 k2 (wrap64 (a0)) x4_2 t357 t363 true))) = some r := by first | (rw [hy360]; with_reducible exact H) | (have H2_ := (Option.bind_some _ _).symm.trans H; rw [hy360]; with_reducible exact H2_) | (have H2_ := (Option.bind_some _ _).symm.trans H; with_reducible exact H2_) | with_reducible exact H | (rw [hy360]; exact H) | exact H
                have Ny360 := Aside0.mk hy360
                clear hy360
                replace H := Option.bind_eq_some_iff.mp H
                obtain ⟨t363, A150, H⟩ := H
                replace H : (if (t357.length : Int) = (wrap64 (a0)) then (antecedentlaw12_CompsChain.j2 k2 (wrap64 (a0)) x4_2 t357 t363 ((t363.length : Int) != (wrap64 (a0)))) else (antecedentlaw12_CompsChain.j2 k2 (wrap64 (a0)) x4_2 t357 t363 true)) = some r := H
                have A15 := Aside0.mk A150
                clear A150
                have HC16 := Aside0.mk H
                clear H
                obtain ⟨Ao17, co17, eo17⟩ := Kd.R_slice HO_4.out
                subst eo17
                go_upto_region 11 with (first | ((with_reducible refine gate_callee (f := 12) rfl ?_); refine goesL_ (some 32) rfl rfl Try.func12 (by kernel_rfl) rfl #[.int .i64 (wrap64 (a0)), .slice Ao17 x4_2.length co17] rfl (by (try simp only [List.map_toArray, List.map_cons, List.map_nil]); first | done | rfl | (simp only [List.length_drop, List.length_take]; rfl)) ?_; (with_reducible refine (comps_Comps.calls k2 (wrap64 (a0)) _ _ x4_2 t357 _ ?side1 ?side2 A13.out).mono ?_); (case side1 => repeat (first | exact (Kd.R_reads' HO_4.out).2.2 | (with_reducible refine Kd.C_alloc ?_ _) | (with_reducible refine Kd.C_drewN ?_ _) | (with_reducible refine Kd.C_drew ?_))); (case side2 => exact (Kd.R_reads' HO_4.out).2.1); rintro e w18 ⟨v358, rfl, ho0, hb⟩; refine ⟨_, rfl, ?_⟩; have n0_ := Aside0.mk (Kd.R_below (by (with_reducible repeat (first | apply Kd.R_alloc | apply Kd.R_drewN | apply Kd.R_drew)); exact HO_4.out) hb); have n1_ := Aside0.mk (Kd.R_lower ho0 (below_size (by repeat (first | (with_reducible first | exact HB.out | apply below_alloc | apply pw_below_drewN | apply below_drew1) | exact HB.out)))); have n2_ := Aside0.mk (below_step (by repeat (first | (with_reducible first | exact HB.out | apply below_alloc | apply pw_below_drewN | apply below_drew1) | exact HB.out)) hb); clear HO_4; clear HB; have HO_4 := n0_; have HO359 := n1_; have HB := n2_; clear n0_ n1_ n2_; (try clear hb); (try clear hb2); (try clear hk); (try clear hi); (try clear ho0)) | ((with_reducible refine gate_builtin (b := .append) (xs := #[.tmp 34, .tmp 38]) rfl ?_); (try (refine gate_guard (by rfl) ?_; dsimp only)); at_builtin; refine Go.Proofs.Ytigpeemgnocdhaa.Both.R_append_both k31 (w0 := w) w.heap.size rfl (.tmp 34) (.tmp 38) 22 31 (.agg #[(.int .i64 0), (.int .i64 0)]) 16 rfl Try.underlying22 info31 rfl (by decide) (by omega) (.slice Ao17 x4_2.length co17) x4_2 (⟨wrap64 ((wrap64 (a0)) - 1), 0⟩ : S31) [.int .i64 (wrap64 ((wrap64 (a0)) - 1)), .int .i64 0] (fun _ => True) (fun _ => False) rfl rfl ?aP (fun _ hk => hk.elim) ?aF ?aO ?aB ?aS ?aL ?_; (case aP => exact k31_mkM _ _ _ (⟨wrap64 ((wrap64 (a0)) - 1), 0⟩ : S31)); (case aB => exact (by repeat (first | (with_reducible first | exact HB.out | apply below_alloc | apply pw_below_drewN | apply below_drew1) | exact HB.out))); (case aF => exact (fun _ _ => trivial)); (case aO => exact (by (with_reducible repeat (first | apply Kd.R_alloc | apply Kd.R_drewN | apply Kd.R_drew)); exact HO_4.out)); (case aS => exact (below_size (by repeat (first | (with_reducible first | exact HB.out | apply below_alloc | apply pw_below_drewN | apply below_drew1) | exact HB.out)))); (case aL => have := LMc14.out; omega); intro v361 w19 ho hb hg hat hold; rw [← Ny360.out] at ho; have n0_ := Aside0.mk (Kd.R_over' (by (with_reducible repeat (first | apply Kd.R_alloc | apply Kd.R_drewN | apply Kd.R_drew)); exact HO359.out) (Kd.R_typed (by (with_reducible repeat (first | apply Kd.R_alloc | apply Kd.R_drewN | apply Kd.R_drew)); exact HO_4.out)) (by decide) hg); have n1_ := Aside0.mk (hb); have n2_ := Aside0.mk (ho); clear HO359; clear HB; clear HO_4; have HO_4 := Aside0.mk hold; have HO359 := n0_; have HB := n1_; have HO362 := n2_; clear n0_ n1_ n2_; clear ho hb hg hat hold; obtain ⟨Ao20, co20, eo20⟩ := Kd.R_slice HO362.out; subst eo20) | ((with_reducible refine gate_callee (f := 12) rfl ?_); refine goesL_ (some 40) rfl rfl Try.func12 (by kernel_rfl) rfl #[.int .i64 (wrap64 (a0)), .slice Ao20 y360.length co20] rfl (by (try simp only [List.map_toArray, List.map_cons, List.map_nil]); first | done | rfl | (simp only [List.length_drop, List.length_take]; rfl)) ?_; (with_reducible refine (comps_Comps.calls k2 (wrap64 (a0)) _ _ y360 t363 _ ?side1 ?side2 A15.out).mono ?_); (case side1 => repeat (first | exact (Kd.R_reads' HO362.out).2.2 | (with_reducible refine Kd.C_alloc ?_ _) | (with_reducible refine Kd.C_drewN ?_ _) | (with_reducible refine Kd.C_drew ?_))); (case side2 => exact (Kd.R_reads' HO362.out).2.1); rintro e w21 ⟨v364, rfl, ho0, hb⟩; refine ⟨_, rfl, ?_⟩; have n0_ := Aside0.mk (Kd.R_elder' (by (with_reducible repeat (first | apply Kd.R_alloc | apply Kd.R_drewN | apply Kd.R_drew)); exact HO359.out) (Kd.R_base ho0) hb); have n1_ := Aside0.mk (Kd.R_below (by (with_reducible repeat (first | apply Kd.R_alloc | apply Kd.R_drewN | apply Kd.R_drew)); exact HO362.out) hb); have n2_ := Aside0.mk (Kd.R_lower (Kd.R_new' ho0 (Kd.R_lt (by (with_reducible repeat (first | apply Kd.R_alloc | apply Kd.R_drewN | apply Kd.R_drew)); exact HO359.out))) (below_size (by repeat (first | (with_reducible first | exact HB.out | apply below_alloc | apply pw_below_drewN | apply below_drew1) | exact HB.out)))); have n3_ := Aside0.mk (below_step (by repeat (first | (with_reducible first | exact HB.out | apply below_alloc | apply pw_below_drewN | apply below_drew1) | exact HB.out)) hb); have n9_ := Aside0.mk (Kd.R_below (by (with_reducible repeat (first | apply Kd.R_alloc | apply Kd.R_drewN | apply Kd.R_drew)); exact HO_4.out) hb); clear HO_4; have HO_4 := n9_; clear n9_; clear HO359; clear HO362; clear HB; have HO359 := n0_; have HO362 := n1_; have HO365 := n2_; have HB := n3_; clear n0_ n1_ n2_ n3_; (try clear hb); (try clear hb2); (try clear hk); (try clear hi); (try clear ho0)))
                (try simp only [Act.put, List.setIfInBounds_toArray, List.set_cons_zero, List.set_cons_succ])
                go_cut [50] (fun v50 wc => ∃ (kq : Nat) (x50_15 : Bool), v50 = .bool x50_15 ∧ Aside0 (antecedentlaw12_CompsChain.j2 kq (wrap64 (a0)) x4_2 t357 t363 x50_15 = some r) ∧ Aside0 (kq ≤ k2) ∧ Aside0 (Kd.R k31 31 wc w.heap.size (fun _ => True) (.slice Ao17 x4_2.length co17) x4_2) ∧ Aside0 (Kd.R (Kd.int .i64) 3 wc w.heap.size (fun k_ => some k_ ≠ (v364 : Value).ownBlock) v358 t357) ∧ Aside0 (Kd.R (Kd.int .i64) 3 wc w.heap.size (fun k_ => some k_ ≠ (v358 : Value).ownBlock) v364 t363) ∧ Aside0 (Below w.heap.size w wc))
                case first =>
                  have H := HC16.out
                  clear HC16
                  by_cases c22 : (t357.length : Int) = (wrap64 (a0))
                  · rw [if_pos c22] at H
                    have c22b0 : ((t357.length : Int) == (wrap64 (a0))) = true := beq_iff_eq.mpr c22
                    have c22b1 : ((t357.length : Int) != (wrap64 (a0))) = false := bne_eq_false_iff_eq.mpr c22
                    clear c22
                    (first | rw [c22b0] | (simp only [i64_w, i32_w]; rw [c22b0]) | skip)
                    have H' := Aside0.mk H
                    clear H
                    obtain ⟨Ao23, co23, eo23⟩ := Kd.R_slice HO359.out
                    subst eo23
                    obtain ⟨Ao24, co24, eo24⟩ := Kd.R_slice HO365.out
                    subst eo24
                    go_wp2
                    go_wp2
                    repeat (go_quiet (fail); try go_wp2)
                    go_meet
                    case rel => exact ⟨_, (((t363.length : Int) != (wrap64 (a0)))), (by first | rfl | (simp; done) | (simp [*]; done)), H', ⟨by have := HJ1.out; have := HK2.out; first | omega | exact Nat.le_refl _⟩, ⟨by (with_reducible repeat (first | apply Kd.R_alloc | apply Kd.R_drewN | apply Kd.R_drew)); exact HO_4.out⟩, ⟨by (with_reducible repeat (first | apply Kd.R_alloc | apply Kd.R_drewN | apply Kd.R_drew)); exact Kd.R_mono HO359.out (fun _ hk => hk.2)⟩, ⟨by (with_reducible repeat (first | apply Kd.R_alloc | apply Kd.R_drewN | apply Kd.R_drew)); exact Kd.R_mono HO365.out (fun _ hk => hk.2)⟩, ⟨by repeat (first | (with_reducible first | exact HB.out | apply below_alloc | apply pw_below_drewN | apply below_drew1) | exact HB.out)⟩⟩
                  · rw [if_neg c22] at H
                    have c22b0 : ((t357.length : Int) == (wrap64 (a0))) = false := beq_eq_false_iff_ne.mpr c22
                    have c22b1 : ((t357.length : Int) != (wrap64 (a0))) = true := bne_iff_ne.mpr c22
                    (first | rw [c22b0] | (simp only [i64_w, i32_w]; rw [c22b0]) | skip)
                    have H' := Aside0.mk H
                    clear H
                    obtain ⟨Ao25, co25, eo25⟩ := Kd.R_slice HO359.out
                    subst eo25
                    go_wp2
                    go_wp2
                    repeat (go_quiet (fail); try go_wp2)
                    go_meet
                    case rel => exact ⟨_, (true), (by first | rfl | (simp; done) | (simp [*]; done)), H', ⟨by have := HJ1.out; have := HK2.out; first | omega | exact Nat.le_refl _⟩, ⟨by (with_reducible repeat (first | apply Kd.R_alloc | apply Kd.R_drewN | apply Kd.R_drew)); exact HO_4.out⟩, ⟨by (with_reducible repeat (first | apply Kd.R_alloc | apply Kd.R_drewN | apply Kd.R_drew)); exact Kd.R_mono HO359.out (fun _ hk => hk.2)⟩, ⟨by (with_reducible repeat (first | apply Kd.R_alloc | apply Kd.R_drewN | apply Kd.R_drew)); exact Kd.R_mono HO365.out (fun _ hk => hk.2)⟩, ⟨by repeat (first | (with_reducible first | exact HB.out | apply below_alloc | apply pw_below_drewN | apply below_drew1) | exact HB.out)⟩⟩
                case rest =>
                  clear HC16
                  try clear c1
                  try clear c2
                  try clear p2
                  try clear c4
                  try clear p6
                  try clear c7
                  try clear c9
                  try clear c10
                  try clear c10b0
                  try clear c11
                  try clear c12
                  try clear c14
                  try clear c22
                  try clear c22b0
                  try clear c22b1
                  try clear p2
                  try clear p6
                  obtain ⟨kq, x50_15, rfl, HA, HJ15, HO_4, HO_6, HO_7, HB⟩ := hcut
                  cases kq with
                  | zero => exact absurd HA.out (by simp [antecedentlaw12_CompsChain.j2])
                  | succ kj15 =>
                    have H := HA.out
                    clear HA
                    simp only [antecedentlaw12_CompsChain.j2] at H
                    by_cases c26 : x50_15 = true
                    · subst c26
                      have H1 : (some false) = some r := by rw [if_pos rfl] at H; exact H
                      clear H
                      have H := H1
                      clear H1
                      obtain rfl := Option.some.inj H
                      go_wp2
                      go_wp2
                      repeat (go_quiet (fail); try go_wp2)
                      go_ret
                      exact ⟨by first | rfl | (simp [errW_none, errW_some] <;> rfl) | (simp [*, errW_none, errW_some] <;> rfl), by repeat (first | (with_reducible first | exact HB.out | apply below_alloc | apply pw_below_drewN | apply below_drew1) | exact HB.out)⟩
                    · replace c26 := Bool.eq_false_iff.mpr c26
                      subst c26
                      have H1 : (antecedentlaw12_CompsChain.l1 kj15 (wrap64 (a0)) x4_2 t357 t363 (wrap64 (a0)) 0) = some r := by rw [if_neg (show ¬ (false = true) by decide)] at H; exact H
                      clear H
                      have H := H1
                      clear H1
                      have H' := Aside0.mk H
                      clear H
                      go_wp2
                      go_wp2
                      repeat (go_quiet (fail); try go_wp2)
                      go_loopg [52] kj15 (fun kq v52 w' => ∃ (x52_4 : Int), v52 = .int .i64 x52_4 ∧ Aside0 (antecedentlaw12_CompsChain.l1 kq (wrap64 (a0)) x4_2 t357 t363 (wrap64 (a0)) x52_4 = some r) ∧ Aside0 (kq ≤ kj15) ∧ Aside0 (Kd.R k31 31 w' w.heap.size (fun _ => True) (.slice Ao17 x4_2.length co17) x4_2) ∧ Aside0 (Kd.R (Kd.int .i64) 3 w' w.heap.size (fun k_ => some k_ ≠ (v364 : Value).ownBlock) v358 t357) ∧ Aside0 (Kd.R (Kd.int .i64) 3 w' w.heap.size (fun k_ => some k_ ≠ (v358 : Value).ownBlock) v364 t363) ∧ Aside0 (Below w.heap.size w w'))
                      case atStart => exact ⟨(0), (by first | rfl | (simp; done) | (simp [*]; done)), H', ⟨Nat.le_refl _⟩, ⟨by (with_reducible repeat (first | apply Kd.R_alloc | apply Kd.R_drewN | apply Kd.R_drew)); exact HO_4.out⟩, ⟨by (with_reducible repeat (first | apply Kd.R_alloc | apply Kd.R_drewN | apply Kd.R_drew)); exact HO_6.out⟩, ⟨by (with_reducible repeat (first | apply Kd.R_alloc | apply Kd.R_drewN | apply Kd.R_drew)); exact HO_7.out⟩, ⟨by repeat (first | (with_reducible first | exact HB.out | apply below_alloc | apply pw_below_drewN | apply below_drew1) | exact HB.out)⟩⟩
                      case round =>
                        clear H'
                        try clear c1
                        try clear c2
                        try clear p2
                        try clear c4
                        try clear p6
                        try clear c7
                        try clear c9
                        try clear c10
                        try clear c10b0
                        try clear c11
                        try clear c12
                        try clear c14
                        try clear c22
                        try clear c22b0
                        try clear c22b1
                        try clear c26
                        try clear p2
                        try clear p6
                        obtain ⟨x52_4, rfl, HA, HK4, HO_4, HO_6, HO_7, HB⟩ := hrel
                        cases gk with
                        | zero => exact absurd HA.out (by simp [antecedentlaw12_CompsChain.l1])
                        | succ k4 =>
                          have H := HA.out
                          clear HA
                          simp only [antecedentlaw12_CompsChain.l1] at H
                          by_cases c27 : x52_4 < (wrap64 (a0))
                          · rw [if_pos c27] at H
                            have c27b0 : decide (x52_4 < (wrap64 (a0))) = true := decide_eq_true c27
                            clear c27
                            by_cases c28 : 0 ≤ x52_4
                            · rw [if_pos c28] at H
                              have c28b0 : decide (0 ≤ x52_4) = true := decide_eq_true c28
                              clear c28
                              by_cases c29 : x52_4 < (t357.length : Int)
                              · rw [if_pos c29] at H
                                have c29b0 : decide (x52_4 < (t357.length : Int)) = true := decide_eq_true c29
                                clear c29
                                by_cases c30 : (rd t357 x52_4) = (wrap64 ((wrap64 ((wrap64 (a0)) - 1)) - x52_4))
                                · rw [if_pos c30] at H
                                  have c30b0 : ((rd t357 x52_4) == (wrap64 ((wrap64 ((wrap64 (a0)) - 1)) - x52_4))) = true := beq_iff_eq.mpr c30
                                  have c30b1 : ((rd t357 x52_4) != (wrap64 ((wrap64 ((wrap64 (a0)) - 1)) - x52_4))) = false := bne_eq_false_iff_eq.mpr c30
                                  clear c30
                                  by_cases c31 : x52_4 < (t363.length : Int)
                                  · rw [if_pos c31] at H
                                    have c31b0 : decide (x52_4 < (t363.length : Int)) = true := decide_eq_true c31
                                    clear c31
                                    by_cases c32 : (rd t363 x52_4) = 0
                                    · rw [if_pos c32] at H
                                      have c32b0 : ((rd t363 x52_4) == 0) = true := beq_iff_eq.mpr c32
                                      have c32b1 : ((rd t363 x52_4) != 0) = false := bne_eq_false_iff_eq.mpr c32
                                      clear c32
                                      have H' := Aside0.mk H
                                      clear H
                                      obtain ⟨Ao33, co33, eo33⟩ := Kd.R_slice HO_6.out
                                      subst eo33
                                      have p366 : 0 ≤ (x52_4 : Int) := of_decide_eq_true (by first | (with_reducible assumption) | assumption)
                                      have q366 : x52_4 < (t357.length : Int) := of_decide_eq_true (by first | (with_reducible assumption) | assumption)
                                      obtain ⟨ad366, e366, hx366_0⟩ := Kd.at_int (Kd.R_reads' HO_6.out).2.2 x52_4 p366 q366
                                      cases e366
                                      replace p366 := eq_true p366
                                      replace q366 := eq_true q366
                                      obtain ⟨Ao34, co34, eo34⟩ := Kd.R_slice HO_7.out
                                      subst eo34
                                      have p367 : 0 ≤ (x52_4 : Int) := of_decide_eq_true (by first | (with_reducible assumption) | assumption)
                                      have q367 : x52_4 < (t363.length : Int) := of_decide_eq_true (by first | (with_reducible assumption) | assumption)
                                      obtain ⟨ad367, e367, hx367_0⟩ := Kd.at_int (Kd.R_reads' HO_7.out).2.2 x52_4 p367 q367
                                      cases e367
                                      replace p367 := eq_true p367
                                      replace q367 := eq_true q367
                                      go_wp2
                                      go_wp2
                                      repeat (go_quiet (fail); try go_wp2)
                                      go_roundg k4
                                      case measure => have := HJ1.out; have := HK2.out; have := HJ15.out; have := HK4.out; omega
                                      case rel => exact ⟨(wrap64 (x52_4 + 1)), (by first | rfl | (simp; done) | (simp [*]; done)), H', ⟨by have := HJ1.out; have := HK2.out; have := HJ15.out; have := HK4.out; omega⟩, ⟨by (with_reducible repeat (first | apply Kd.R_alloc | apply Kd.R_drewN | apply Kd.R_drew)); exact HO_4.out⟩, ⟨by (with_reducible repeat (first | apply Kd.R_alloc | apply Kd.R_drewN | apply Kd.R_drew)); exact HO_6.out⟩, ⟨by (with_reducible repeat (first | apply Kd.R_alloc | apply Kd.R_drewN | apply Kd.R_drew)); exact HO_7.out⟩, ⟨by repeat (first | (with_reducible first | exact HB.out | apply below_alloc | apply pw_below_drewN | apply below_drew1) | exact HB.out)⟩⟩
                                    · rw [if_neg c32] at H
                                      have c32b0 : ((rd t363 x52_4) == 0) = false := beq_eq_false_iff_ne.mpr c32
                                      have c32b1 : ((rd t363 x52_4) != 0) = true := bne_iff_ne.mpr c32
                                      obtain rfl := Option.some.inj H
                                      obtain ⟨Ao35, co35, eo35⟩ := Kd.R_slice HO_6.out
                                      subst eo35
                                      have p366 : 0 ≤ (x52_4 : Int) := of_decide_eq_true (by first | (with_reducible assumption) | assumption)
                                      have q366 : x52_4 < (t357.length : Int) := of_decide_eq_true (by first | (with_reducible assumption) | assumption)
                                      obtain ⟨ad366, e366, hx366_0⟩ := Kd.at_int (Kd.R_reads' HO_6.out).2.2 x52_4 p366 q366
                                      cases e366
                                      replace p366 := eq_true p366
                                      replace q366 := eq_true q366
                                      obtain ⟨Ao36, co36, eo36⟩ := Kd.R_slice HO_7.out
                                      subst eo36
                                      have p367 : 0 ≤ (x52_4 : Int) := of_decide_eq_true (by first | (with_reducible assumption) | assumption)
                                      have q367 : x52_4 < (t363.length : Int) := of_decide_eq_true (by first | (with_reducible assumption) | assumption)
                                      obtain ⟨ad367, e367, hx367_0⟩ := Kd.at_int (Kd.R_reads' HO_7.out).2.2 x52_4 p367 q367
                                      cases e367
                                      replace p367 := eq_true p367
                                      replace q367 := eq_true q367
                                      go_wp2
                                      go_wp2
                                      repeat (go_quiet (fail); try go_wp2)
                                      go_ret
                                      exact ⟨by first | rfl | (simp [errW_none, errW_some] <;> rfl) | (simp [*, errW_none, errW_some] <;> rfl), by repeat (first | (with_reducible first | exact HB.out | apply below_alloc | apply pw_below_drewN | apply below_drew1) | exact HB.out)⟩
                                  · rw [if_neg c31] at H
                                    exact absurd H (by simp)
                                · rw [if_neg c30] at H
                                  have c30b0 : ((rd t357 x52_4) == (wrap64 ((wrap64 ((wrap64 (a0)) - 1)) - x52_4))) = false := beq_eq_false_iff_ne.mpr c30
                                  have c30b1 : ((rd t357 x52_4) != (wrap64 ((wrap64 ((wrap64 (a0)) - 1)) - x52_4))) = true := bne_iff_ne.mpr c30
                                  obtain rfl := Option.some.inj H
                                  obtain ⟨Ao37, co37, eo37⟩ := Kd.R_slice HO_6.out
                                  subst eo37
                                  have p366 : 0 ≤ (x52_4 : Int) := of_decide_eq_true (by first | (with_reducible assumption) | assumption)
                                  have q366 : x52_4 < (t357.length : Int) := of_decide_eq_true (by first | (with_reducible assumption) | assumption)
                                  obtain ⟨ad366, e366, hx366_0⟩ := Kd.at_int (Kd.R_reads' HO_6.out).2.2 x52_4 p366 q366
                                  cases e366
                                  replace p366 := eq_true p366
                                  replace q366 := eq_true q366
                                  go_wp2
                                  go_wp2
                                  repeat (go_quiet (fail); try go_wp2)
                                  go_ret
                                  exact ⟨by first | rfl | (simp [errW_none, errW_some] <;> rfl) | (simp [*, errW_none, errW_some] <;> rfl), by repeat (first | (with_reducible first | exact HB.out | apply below_alloc | apply pw_below_drewN | apply below_drew1) | exact HB.out)⟩
                              · rw [if_neg c29] at H
                                exact absurd H (by simp)
                            · rw [if_neg c28] at H
                              exact absurd H (by simp)
                          · rw [if_neg c27] at H
                            have c27b0 : decide (x52_4 < (wrap64 (a0))) = false := decide_eq_false c27
                            clear c27
                            replace H := Option.bind_eq_some_iff.mp H
                            obtain ⟨t368, A380, H⟩ := H
                            replace H : (if (t368.length : Int) = (wrap64 (a0)) then ((comps_Reach.f k4 (wrap64 (a0)) x4_2 (wrap64 (a0))).bind fun t371 => (if (t371.length : Int) = 0 then ((comps_Comps.f k4 (-1) x4_2).bind fun t374 => (some ((t374.length : Int) == 0))) else (some false))) else (some false)) = some r := H
                            have A38 := Aside0.mk A380
                            clear A380
                            by_cases c39 : (t368.length : Int) = (wrap64 (a0))
                            · rw [if_pos c39] at H
                              have c39b0 : ((t368.length : Int) == (wrap64 (a0))) = true := beq_iff_eq.mpr c39
                              have c39b1 : ((t368.length : Int) != (wrap64 (a0))) = false := bne_eq_false_iff_eq.mpr c39
                              clear c39
                              replace H := Option.bind_eq_some_iff.mp H
                              obtain ⟨t371, A400, H⟩ := H
                              replace H : (if (t371.length : Int) = 0 then ((comps_Comps.f k4 (-1) x4_2).bind fun t374 => (some ((t374.length : Int) == 0))) else (some false)) = some r := H
                              have A40 := Aside0.mk A400
                              clear A400
                              by_cases c41 : (t371.length : Int) = 0
                              · rw [if_pos c41] at H
                                have c41b0 : ((t371.length : Int) == 0) = true := beq_iff_eq.mpr c41
                                have c41b1 : ((t371.length : Int) != 0) = false := bne_eq_false_iff_eq.mpr c41
                                clear c41
                                replace H := Option.bind_eq_some_iff.mp H
                                obtain ⟨t374, A420, H⟩ := H
                                replace H : (some ((t374.length : Int) == 0)) = some r := H
                                have A42 := Aside0.mk A420
                                clear A420
                                obtain rfl := Option.some.inj H
                                go_wp2_with (first | ((with_reducible refine gate_callee (f := 14) rfl ?_); refine goesL_ (some 74) rfl rfl Try.func14 (by kernel_rfl) rfl #[.int .i64 (wrap64 (a0)), .slice Ao17 x4_2.length co17, .int .i64 0] rfl (by (try simp only [List.map_toArray, List.map_cons, List.map_nil]); first | done | rfl | (simp only [List.length_drop, List.length_take]; rfl)) ?_; (with_reducible refine (comps_Reach.calls k4 (wrap64 (a0)) _ _ x4_2 0 t368 _ ?side1 ?side2 A38.out).mono ?_); (case side1 => repeat (first | exact (Kd.R_reads' HO_4.out).2.2 | (with_reducible refine Kd.C_alloc ?_ _) | (with_reducible refine Kd.C_drewN ?_ _) | (with_reducible refine Kd.C_drew ?_))); (case side2 => exact (Kd.R_reads' HO_4.out).2.1); rintro e w43 ⟨v369, rfl, ho0, hb⟩; refine ⟨_, rfl, ?_⟩; have n0_ := Aside0.mk (Kd.R_below (by (with_reducible repeat (first | apply Kd.R_alloc | apply Kd.R_drewN | apply Kd.R_drew)); exact HO_4.out) hb); have n1_ := Aside0.mk (Kd.R_elder' (by (with_reducible repeat (first | apply Kd.R_alloc | apply Kd.R_drewN | apply Kd.R_drew)); exact HO_6.out) (Kd.R_base ho0) hb); have n2_ := Aside0.mk (Kd.R_elder' (by (with_reducible repeat (first | apply Kd.R_alloc | apply Kd.R_drewN | apply Kd.R_drew)); exact HO_7.out) (Kd.R_base ho0) hb); have n3_ := Aside0.mk (Kd.R_lower (Kd.R_new' (Kd.R_new' ho0 (Kd.R_lt (by (with_reducible repeat (first | apply Kd.R_alloc | apply Kd.R_drewN | apply Kd.R_drew)); exact HO_6.out))) (Kd.R_lt (by (with_reducible repeat (first | apply Kd.R_alloc | apply Kd.R_drewN | apply Kd.R_drew)); exact HO_7.out))) (below_size (by repeat (first | (with_reducible first | exact HB.out | apply below_alloc | apply pw_below_drewN | apply below_drew1) | exact HB.out)))); have n4_ := Aside0.mk (below_step (by repeat (first | (with_reducible first | exact HB.out | apply below_alloc | apply pw_below_drewN | apply below_drew1) | exact HB.out)) hb); clear HO_4; clear HO_6; clear HO_7; clear HB; have HO_4 := n0_; have HO_6 := n1_; have HO_7 := n2_; have HO370 := n3_; have HB := n4_; clear n0_ n1_ n2_ n3_ n4_; (try clear hb); (try clear hb2); (try clear hk); (try clear hi); (try clear ho0); obtain ⟨Ao44, co44, eo44⟩ := Kd.R_slice HO370.out; subst eo44) | (go_at_call 14; (with_reducible refine (comps_Reach.calls k4 (wrap64 (a0)) _ _ x4_2 (wrap64 (a0)) t371 _ ?side1 ?side2 A40.out).mono ?_); (case side1 => repeat (first | exact (Kd.R_reads' HO_4.out).2.2 | (with_reducible refine Kd.C_alloc ?_ _) | (with_reducible refine Kd.C_drewN ?_ _) | (with_reducible refine Kd.C_drew ?_))); (case side2 => exact (Kd.R_reads' HO_4.out).2.1); rintro e w45 ⟨v372, rfl, ho0, hb⟩; have n0_ := Aside0.mk (Kd.R_below (by (with_reducible repeat (first | apply Kd.R_alloc | apply Kd.R_drewN | apply Kd.R_drew)); exact HO_4.out) hb); have n1_ := Aside0.mk (Kd.R_elder' (by (with_reducible repeat (first | apply Kd.R_alloc | apply Kd.R_drewN | apply Kd.R_drew)); exact HO_6.out) (Kd.R_base ho0) hb); have n2_ := Aside0.mk (Kd.R_elder' (by (with_reducible repeat (first | apply Kd.R_alloc | apply Kd.R_drewN | apply Kd.R_drew)); exact HO_7.out) (Kd.R_base ho0) hb); have n3_ := Aside0.mk (Kd.R_elder' (by (with_reducible repeat (first | apply Kd.R_alloc | apply Kd.R_drewN | apply Kd.R_drew)); exact HO370.out) (Kd.R_base ho0) hb); have n4_ := Aside0.mk (Kd.R_lower (Kd.R_new' (Kd.R_new' (Kd.R_new' ho0 (Kd.R_lt (by (with_reducible repeat (first | apply Kd.R_alloc | apply Kd.R_drewN | apply Kd.R_drew)); exact HO_6.out))) (Kd.R_lt (by (with_reducible repeat (first | apply Kd.R_alloc | apply Kd.R_drewN | apply Kd.R_drew)); exact HO_7.out))) (Kd.R_lt (by (with_reducible repeat (first | apply Kd.R_alloc | apply Kd.R_drewN | apply Kd.R_drew)); exact HO370.out))) (below_size (by repeat (first | (with_reducible first | exact HB.out | apply below_alloc | apply pw_below_drewN | apply below_drew1) | exact HB.out)))); have n5_ := Aside0.mk (below_step (by repeat (first | (with_reducible first | exact HB.out | apply below_alloc | apply pw_below_drewN | apply below_drew1) | exact HB.out)) hb); clear HO_4; clear HO_6; clear HO_7; clear HO370; clear HB; have HO_4 := n0_; have HO_6 := n1_; have HO_7 := n2_; have HO370 := n3_; have HO373 := n4_; have HB := n5_; clear n0_ n1_ n2_ n3_ n4_ n5_; (try clear hb); (try clear hb2); (try clear hk); (try clear hi); (try clear ho0); obtain ⟨Ao46, co46, eo46⟩ := Kd.R_slice HO373.out; subst eo46) | (go_at_call 12; (with_reducible refine (comps_Comps.calls k4 (-1) _ _ x4_2 t374 _ ?side1 ?side2 A42.out).mono ?_); (case side1 => repeat (first | exact (Kd.R_reads' HO_4.out).2.2 | (with_reducible refine Kd.C_alloc ?_ _) | (with_reducible refine Kd.C_drewN ?_ _) | (with_reducible refine Kd.C_drew ?_))); (case side2 => exact (Kd.R_reads' HO_4.out).2.1); rintro e w47 ⟨v375, rfl, ho0, hb⟩; have n0_ := Aside0.mk (Kd.R_below (by (with_reducible repeat (first | apply Kd.R_alloc | apply Kd.R_drewN | apply Kd.R_drew)); exact HO_4.out) hb); have n1_ := Aside0.mk (Kd.R_elder' (by (with_reducible repeat (first | apply Kd.R_alloc | apply Kd.R_drewN | apply Kd.R_drew)); exact HO_6.out) (Kd.R_base ho0) hb); have n2_ := Aside0.mk (Kd.R_elder' (by (with_reducible repeat (first | apply Kd.R_alloc | apply Kd.R_drewN | apply Kd.R_drew)); exact HO_7.out) (Kd.R_base ho0) hb); have n3_ := Aside0.mk (Kd.R_elder' (by (with_reducible repeat (first | apply Kd.R_alloc | apply Kd.R_drewN | apply Kd.R_drew)); exact HO370.out) (Kd.R_base ho0) hb); have n4_ := Aside0.mk (Kd.R_elder' (by (with_reducible repeat (first | apply Kd.R_alloc | apply Kd.R_drewN | apply Kd.R_drew)); exact HO373.out) (Kd.R_base ho0) hb); have n5_ := Aside0.mk (Kd.R_lower (Kd.R_new' (Kd.R_new' (Kd.R_new' (Kd.R_new' ho0 (Kd.R_lt (by (with_reducible repeat (first | apply Kd.R_alloc | apply Kd.R_drewN | apply Kd.R_drew)); exact HO_6.out))) (Kd.R_lt (by (with_reducible repeat (first | apply Kd.R_alloc | apply Kd.R_drewN | apply Kd.R_drew)); exact HO_7.out))) (Kd.R_lt (by (with_reducible repeat (first | apply Kd.R_alloc | apply Kd.R_drewN | apply Kd.R_drew)); exact HO370.out))) (Kd.R_lt (by (with_reducible repeat (first | apply Kd.R_alloc | apply Kd.R_drewN | apply Kd.R_drew)); exact HO373.out))) (below_size (by repeat (first | (with_reducible first | exact HB.out | apply below_alloc | apply pw_below_drewN | apply below_drew1) | exact HB.out)))); have n6_ := Aside0.mk (below_step (by repeat (first | (with_reducible first | exact HB.out | apply below_alloc | apply pw_below_drewN | apply below_drew1) | exact HB.out)) hb); clear HO_4; clear HO_6; clear HO_7; clear HO370; clear HO373; clear HB; have HO_4 := n0_; have HO_6 := n1_; have HO_7 := n2_; have HO370 := n3_; have HO373 := n4_; have HO376 := n5_; have HB := n6_; clear n0_ n1_ n2_ n3_ n4_ n5_ n6_; (try clear hb); (try clear hb2); (try clear hk); (try clear hi); (try clear ho0); obtain ⟨Ao48, co48, eo48⟩ := Kd.R_slice HO376.out; subst eo48))
                                go_wp2
                                repeat (go_quiet (fail); try go_wp2)
                                go_ret
                                exact ⟨by first | rfl | (simp [errW_none, errW_some] <;> rfl) | (simp [*, errW_none, errW_some] <;> rfl), by repeat (first | (with_reducible first | exact HB.out | apply below_alloc | apply pw_below_drewN | apply below_drew1) | exact HB.out)⟩
                              · rw [if_neg c41] at H
                                have c41b0 : ((t371.length : Int) == 0) = false := beq_eq_false_iff_ne.mpr c41
                                have c41b1 : ((t371.length : Int) != 0) = true := bne_iff_ne.mpr c41
                                have c41b2 : ¬ (t371 = []) := fun h_ => c41 (by rw [h_]; rfl)
                                obtain rfl := Option.some.inj H
                                go_wp2_with (first | ((with_reducible refine gate_callee (f := 14) rfl ?_); refine goesL_ (some 74) rfl rfl Try.func14 (by kernel_rfl) rfl #[.int .i64 (wrap64 (a0)), .slice Ao17 x4_2.length co17, .int .i64 0] rfl (by (try simp only [List.map_toArray, List.map_cons, List.map_nil]); first | done | rfl | (simp only [List.length_drop, List.length_take]; rfl)) ?_; (with_reducible refine (comps_Reach.calls k4 (wrap64 (a0)) _ _ x4_2 0 t368 _ ?side1 ?side2 A38.out).mono ?_); (case side1 => repeat (first | exact (Kd.R_reads' HO_4.out).2.2 | (with_reducible refine Kd.C_alloc ?_ _) | (with_reducible refine Kd.C_drewN ?_ _) | (with_reducible refine Kd.C_drew ?_))); (case side2 => exact (Kd.R_reads' HO_4.out).2.1); rintro e w49 ⟨v369, rfl, ho0, hb⟩; refine ⟨_, rfl, ?_⟩; have n0_ := Aside0.mk (Kd.R_below (by (with_reducible repeat (first | apply Kd.R_alloc | apply Kd.R_drewN | apply Kd.R_drew)); exact HO_4.out) hb); have n1_ := Aside0.mk (Kd.R_elder' (by (with_reducible repeat (first | apply Kd.R_alloc | apply Kd.R_drewN | apply Kd.R_drew)); exact HO_6.out) (Kd.R_base ho0) hb); have n2_ := Aside0.mk (Kd.R_elder' (by (with_reducible repeat (first | apply Kd.R_alloc | apply Kd.R_drewN | apply Kd.R_drew)); exact HO_7.out) (Kd.R_base ho0) hb); have n3_ := Aside0.mk (Kd.R_lower (Kd.R_new' (Kd.R_new' ho0 (Kd.R_lt (by (with_reducible repeat (first | apply Kd.R_alloc | apply Kd.R_drewN | apply Kd.R_drew)); exact HO_6.out))) (Kd.R_lt (by (with_reducible repeat (first | apply Kd.R_alloc | apply Kd.R_drewN | apply Kd.R_drew)); exact HO_7.out))) (below_size (by repeat (first | (with_reducible first | exact HB.out | apply below_alloc | apply pw_below_drewN | apply below_drew1) | exact HB.out)))); have n4_ := Aside0.mk (below_step (by repeat (first | (with_reducible first | exact HB.out | apply below_alloc | apply pw_below_drewN | apply below_drew1) | exact HB.out)) hb); clear HO_4; clear HO_6; clear HO_7; clear HB; have HO_4 := n0_; have HO_6 := n1_; have HO_7 := n2_; have HO370 := n3_; have HB := n4_; clear n0_ n1_ n2_ n3_ n4_; (try clear hb); (try clear hb2); (try clear hk); (try clear hi); (try clear ho0); obtain ⟨Ao50, co50, eo50⟩ := Kd.R_slice HO370.out; subst eo50) | (go_at_call 14; (with_reducible refine (comps_Reach.calls k4 (wrap64 (a0)) _ _ x4_2 (wrap64 (a0)) t371 _ ?side1 ?side2 A40.out).mono ?_); (case side1 => repeat (first | exact (Kd.R_reads' HO_4.out).2.2 | (with_reducible refine Kd.C_alloc ?_ _) | (with_reducible refine Kd.C_drewN ?_ _) | (with_reducible refine Kd.C_drew ?_))); (case side2 => exact (Kd.R_reads' HO_4.out).2.1); rintro e w51 ⟨v372, rfl, ho0, hb⟩; have n0_ := Aside0.mk (Kd.R_below (by (with_reducible repeat (first | apply Kd.R_alloc | apply Kd.R_drewN | apply Kd.R_drew)); exact HO_4.out) hb); have n1_ := Aside0.mk (Kd.R_elder' (by (with_reducible repeat (first | apply Kd.R_alloc | apply Kd.R_drewN | apply Kd.R_drew)); exact HO_6.out) (Kd.R_base ho0) hb); have n2_ := Aside0.mk (Kd.R_elder' (by (with_reducible repeat (first | apply Kd.R_alloc | apply Kd.R_drewN | apply Kd.R_drew)); exact HO_7.out) (Kd.R_base ho0) hb); have n3_ := Aside0.mk (Kd.R_elder' (by (with_reducible repeat (first | apply Kd.R_alloc | apply Kd.R_drewN | apply Kd.R_drew)); exact HO370.out) (Kd.R_base ho0) hb); have n4_ := Aside0.mk (Kd.R_lower (Kd.R_new' (Kd.R_new' (Kd.R_new' ho0 (Kd.R_lt (by (with_reducible repeat (first | apply Kd.R_alloc | apply Kd.R_drewN | apply Kd.R_drew)); exact HO_6.out))) (Kd.R_lt (by (with_reducible repeat (first | apply Kd.R_alloc | apply Kd.R_drewN | apply Kd.R_drew)); exact HO_7.out))) (Kd.R_lt (by (with_reducible repeat (first | apply Kd.R_alloc | apply Kd.R_drewN | apply Kd.R_drew)); exact HO370.out))) (below_size (by repeat (first | (with_reducible first | exact HB.out | apply below_alloc | apply pw_below_drewN | apply below_drew1) | exact HB.out)))); have n5_ := Aside0.mk (below_step (by repeat (first | (with_reducible first | exact HB.out | apply below_alloc | apply pw_below_drewN | apply below_drew1) | exact HB.out)) hb); clear HO_4; clear HO_6; clear HO_7; clear HO370; clear HB; have HO_4 := n0_; have HO_6 := n1_; have HO_7 := n2_; have HO370 := n3_; have HO373 := n4_; have HB := n5_; clear n0_ n1_ n2_ n3_ n4_ n5_; (try clear hb); (try clear hb2); (try clear hk); (try clear hi); (try clear ho0); obtain ⟨Ao52, co52, eo52⟩ := Kd.R_slice HO373.out; subst eo52))
                                go_wp2
                                repeat (go_quiet (fail); try go_wp2)
                                go_ret
                                exact ⟨by first | rfl | (simp [errW_none, errW_some] <;> rfl) | (simp [*, errW_none, errW_some] <;> rfl), by repeat (first | (with_reducible first | exact HB.out | apply below_alloc | apply pw_below_drewN | apply below_drew1) | exact HB.out)⟩
                            · rw [if_neg c39] at H
                              have c39b0 : ((t368.length : Int) == (wrap64 (a0))) = false := beq_eq_false_iff_ne.mpr c39
                              have c39b1 : ((t368.length : Int) != (wrap64 (a0))) = true := bne_iff_ne.mpr c39
                              obtain rfl := Option.some.inj H
                              go_wp2_with (first | ((with_reducible refine gate_callee (f := 14) rfl ?_); refine goesL_ (some 74) rfl rfl Try.func14 (by kernel_rfl) rfl #[.int .i64 (wrap64 (a0)), .slice Ao17 x4_2.length co17, .int .i64 0] rfl (by (try simp only [List.map_toArray, List.map_cons, List.map_nil]); first | done | rfl | (simp only [List.length_drop, List.length_take]; rfl)) ?_; (with_reducible refine (comps_Reach.calls k4 (wrap64 (a0)) _ _ x4_2 0 t368 _ ?side1 ?side2 A38.out).mono ?_); (case side1 => repeat (first | exact (Kd.R_reads' HO_4.out).2.2 | (with_reducible refine Kd.C_alloc ?_ _) | (with_reducible refine Kd.C_drewN ?_ _) | (with_reducible refine Kd.C_drew ?_))); (case side2 => exact (Kd.R_reads' HO_4.out).2.1); rintro e w53 ⟨v369, rfl, ho0, hb⟩; refine ⟨_, rfl, ?_⟩; have n0_ := Aside0.mk (Kd.R_below (by (with_reducible repeat (first | apply Kd.R_alloc | apply Kd.R_drewN | apply Kd.R_drew)); exact HO_4.out) hb); have n1_ := Aside0.mk (Kd.R_elder' (by (with_reducible repeat (first | apply Kd.R_alloc | apply Kd.R_drewN | apply Kd.R_drew)); exact HO_6.out) (Kd.R_base ho0) hb); have n2_ := Aside0.mk (Kd.R_elder' (by (with_reducible repeat (first | apply Kd.R_alloc | apply Kd.R_drewN | apply Kd.R_drew)); exact HO_7.out) (Kd.R_base ho0) hb); have n3_ := Aside0.mk (Kd.R_lower (Kd.R_new' (Kd.R_new' ho0 (Kd.R_lt (by (with_reducible repeat (first | apply Kd.R_alloc | apply Kd.R_drewN | apply Kd.R_drew)); exact HO_6.out))) (Kd.R_lt (by (with_reducible repeat (first | apply Kd.R_alloc | apply Kd.R_drewN | apply Kd.R_drew)); exact HO_7.out))) (below_size (by repeat (first | (with_reducible first | exact HB.out | apply below_alloc | apply pw_below_drewN | apply below_drew1) | exact HB.out)))); have n4_ := Aside0.mk (below_step (by repeat (first | (with_reducible first | exact HB.out | apply below_alloc | apply pw_below_drewN | apply below_drew1) | exact HB.out)) hb); clear HO_4; clear HO_6; clear HO_7; clear HB; have HO_4 := n0_; have HO_6 := n1_; have HO_7 := n2_; have HO370 := n3_; have HB := n4_; clear n0_ n1_ n2_ n3_ n4_; (try clear hb); (try clear hb2); (try clear hk); (try clear hi); (try clear ho0); obtain ⟨Ao54, co54, eo54⟩ := Kd.R_slice HO370.out; subst eo54))
                              go_wp2
                              repeat (go_quiet (fail); try go_wp2)
                              go_ret
                              exact ⟨by first | rfl | (simp [errW_none, errW_some] <;> rfl) | (simp [*, errW_none, errW_some] <;> rfl), by repeat (first | (with_reducible first | exact HB.out | apply below_alloc | apply pw_below_drewN | apply below_drew1) | exact HB.out)⟩
              · rw [if_neg c14] at H
                exact absurd H (by simp)

/-- THE ONE PURE STATEMENT of antecedentlaw12_CompsChain: yours. -/
def antecedentlaw12_CompsChain.Pure : Prop := ∀ (a0 : Int), (Lit.int .u8 a0).wf = true → ∃ k, antecedentlaw12_CompsChain.f k a0 = some true
theorem antecedentlaw12_CompsChain.walk (P : antecedentlaw12_CompsChain.Pure) (a0 : Int) (w : World) (w0 : (Lit.int .u8 a0).wf = true) :
    Calls Try.prog 7 #[.int .u8 a0] w fun e w' => e = .returned (.bool true) ∧ Below w.heap.size w w' := by
  obtain ⟨k, h⟩ := P a0 w0
  refine (antecedentlaw12_CompsChain.calls k a0 true w h).mono ?_
  rintro e w' ⟨rfl, hd⟩
  exact ⟨rfl, hd⟩

end Go.Proofs.Ytigpeemgnocdhaa.PZ
