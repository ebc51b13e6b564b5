
/- Printed by a turned copy of the printer (wip/mkprint.py): Go functions as Lean functions, with a proof of each. -/
import Derived.Test.YtfkilcegdajdcaaPZx0
namespace Go.Proofs.Ytfkilcegdajdcaa.PZ
open Go.RowKit Go.Proofs.YtfkilcegdajdcaaW.PrintWords Go.Proofs.YtfkilcegdajdcaaW.PrintLast Go.Proofs.YtfkilcegdajdcaaW.PrintMore
attribute [local go_sem] max2_int min2_int max_two min_two max_three min_three max_four min_four   -- for this text's walks alone
set_option linter.unusedVariables false
set_option linter.unusedSimpArgs false
mutual
def comps_Lists.l0 : Nat → List (List Int) → List Int → Int → Int → Option ((List (List Int)))
  | 0, _, _, _, _ => none
  | k + 1, x3, x6, x7, x8 => if x8 < x7 then (if 0 ≤ x8 then (if x8 < (x6.length : Int) then (if (rd x6 x8) < 0 then (comps_Lists.j1 k x3 x8 (rd x6 x8) x6 x7 x8 true) else (comps_Lists.j1 k x3 x8 (rd x6 x8) x6 x7 x8 (decide ((rd x6 x8) > 1000)))) else (none)) else (none)) else (some x3)
def comps_Lists.j1 : Nat → List (List Int) → Int → Int → List Int → Int → Int → Bool → Option ((List (List Int)))
  | 0, _, _, _, _, _, _, _ => none
  | k + 1, x3, x4, x5, x6, x7, x8, x18 => if x18 = true then (comps_Lists.l0 k x3 x6 x7 (wrap64 (x8 + 1))) else (comps_Lists.l1 k x3 x4 x5 x6 x7 x8)
def comps_Lists.l1 : Nat → List (List Int) → Int → Int → List Int → Int → Int → Option ((List (List Int)))
  | 0, _, _, _, _, _, _ => none
  | k + 1, x3, x4, x5, x6, x7, x8 => if (x3.length : Int) ≤ x5 then (if x3.length < 5864062014805 then (comps_Lists.l1 k (x3 ++ [([] : List Int)]) x4 x5 x6 x7 x8) else (none)) else (if 0 ≤ x5 then (if x5 < (x3.length : Int) then (if (rd_L7 x3 x5).length < 17592186044416 then (comps_Lists.l0 k (x3.set (x5 : Int).toNat ((rd_L7 x3 x5) ++ [x4])) x6 x7 (wrap64 (x8 + 1))) else (none)) else (none)) else (none))
end
def comps_Lists.f (k : Nat) (l0 : List Int) : Option ((List (List Int))) := comps_Lists.l0 k ([] : List (List Int)) l0 (l0.length : Int) 0
theorem comps_Lists.mono_l : ∀ k, (∀ y0 y1 y2 y3, LeO (comps_Lists.l0 k y0 y1 y2 y3) (comps_Lists.l0 (k + 1) y0 y1 y2 y3)) ∧ (∀ y0 y1 y2 y3 y4 y5 y6, LeO (comps_Lists.j1 k y0 y1 y2 y3 y4 y5 y6) (comps_Lists.j1 (k + 1) y0 y1 y2 y3 y4 y5 y6)) ∧ (∀ y0 y1 y2 y3 y4 y5, LeO (comps_Lists.l1 k y0 y1 y2 y3 y4 y5) (comps_Lists.l1 (k + 1) y0 y1 y2 y3 y4 y5))
  | 0 => ⟨fun _ _ _ _ r h => by simp [comps_Lists.l0] at h, fun _ _ _ _ _ _ _ r h => by simp [comps_Lists.j1] at h, fun _ _ _ _ _ _ r h => by simp [comps_Lists.l1] at h⟩
  | k + 1 => by
    obtain ⟨ih0, ih1, ih2⟩ := comps_Lists.mono_l k
    refine ⟨?_, ?_, ?_⟩
    all_goals
      intros
      first | unfold comps_Lists.l0 | unfold comps_Lists.j1 | unfold comps_Lists.l1
      repeat' first
      | (with_reducible exact ih0 _ _ _ _)
      | (with_reducible exact ih1 _ _ _ _ _ _ _)
      | (with_reducible exact ih2 _ _ _ _ _ _)
      | (with_reducible exact LeO.refl _)
      | (with_reducible exact LeO.none _)
      | (with_reducible refine LeO.ite ?_ ?_)
      | (with_reducible refine LeO.bind ?_ (fun _ => ?_))
theorem comps_Lists.mono : ∀ a0 k, LeO (comps_Lists.f k a0) (comps_Lists.f (k + 1) a0) := by
 intro a0 k
 obtain ⟨ih0, ih1, ih2⟩ := comps_Lists.mono_l k
 unfold comps_Lists.f
 repeat' first
  | (with_reducible exact ih0 _ _ _ _)
  | (with_reducible exact ih1 _ _ _ _ _ _ _)
  | (with_reducible exact ih2 _ _ _ _ _ _)
  | (with_reducible exact LeO.refl _)
  | (with_reducible exact LeO.none _)
  | (with_reducible refine LeO.ite ?_ ?_)
  | (with_reducible refine LeO.bind ?_ (fun _ => ?_))
set_option maxHeartbeats 8000000 in
set_option maxRecDepth 100000 in
theorem comps_Lists.calls (k : Nat) (A0 : Option Addr) (c0 : Nat) (l0 : List Int) (r : List (List Int)) (w : World) (hr0 : Kd.C (Kd.int .i64) w A0 l0.length l0) (hc0 : l0.length ≤ c0) (h : comps_Lists.f k l0 = some r) :
 Calls Try.prog 24 #[.slice A0 l0.length c0] w fun e w' => ∃ v0_ : Value, e = .returned (v0_) ∧ Kd.S (Kd.slice 3 (Kd.int .i64)) 56 w' w.heap.size (fun _ => True) v0_ r ∧ Below w.heap.size w w' := by
 have HR0 := Aside0.mk hr0
 have HC0 := Aside0.mk hc0
 clear hr0 hc0
 have HB := Aside0.mk (Below.refl w.heap.size w)
 have H : (comps_Lists.l0 k ([] : List (List Int)) l0 (l0.length : Int) 0) = some r := h
 clear h
 have H' := Aside0.mk H
 clear H
 go_enter Try.func24, Try.ntmps24
 go_wp2
 go_wp2
 repeat (go_quiet (fail); try go_wp2)
 go_loopg [3, 8] k (fun kq v3 v8 w' => ∃ (x3_1 : List (List Int)) (x8_1 : Int), v8 = .int .i64 x8_1 ∧ Aside0 (comps_Lists.l0 kq x3_1 l0 (l0.length : Int) x8_1 = some r) ∧ Aside0 (kq ≤ k) ∧ Aside0 (Kd.S (Kd.slice 3 (Kd.int .i64)) 56 w' w.heap.size (fun _ => True) v3 x3_1) ∧ Aside0 (Below w.heap.size w w'))
 case atStart => exact ⟨(([] : List (List Int))), (0), (by first | rfl | (simp; done) | (simp [*]; done)), H', ⟨Nat.le_refl _⟩, ⟨by first | exact Kd.S_nil _ _ _ _ _ | exact Kd.N_nil _ _ _ _ _ | exact Kd.V_nil _ _ _ _ _ | exact Kd.Q_nil _ _ _ _ _ | exact Kd.R_nil _ _ _ _ _⟩, ⟨by repeat (first | (with_reducible first | exact HB.out | apply below_alloc | apply pw_below_drewN | apply below_drew1) | exact HB.out)⟩⟩
 clear H'
 obtain ⟨x3_1, x8_1, rfl, HA, HK1, HO_3, HB⟩ := hrel
 obtain _ | k1 := gk
 · exact absurd HA.out (by simp [comps_Lists.l0])
 have H := HA.out
 clear HA
 simp only [comps_Lists.l0] at H
 by_cases c2 : x8_1 < (l0.length : Int)
 case neg =>
  rw [if_neg c2] at H
  have c2b0 := decide_eq_false c2
  clear c2
  obtain rfl := Option.some.inj H
  go_wp2
  go_wp2
  repeat (go_quiet (fail); try go_wp2)
  go_ret
  exact ⟨_, by first | rfl | (simp [errW_none, errW_some] <;> rfl) | (simp [*, errW_none, errW_some] <;> rfl), by (with_reducible repeat (first | apply Kd.S_alloc | apply Kd.S_drewN | apply Kd.S_drew)); exact HO_3.out, by repeat (first | (with_reducible first | exact HB.out | apply below_alloc | apply pw_below_drewN | apply below_drew1) | exact HB.out)⟩
 rw [if_pos c2] at H
 have c2b0 := decide_eq_true c2
 clear c2
 by_cases c3 : 0 ≤ x8_1
 case neg => rw [if_neg c3] at H; exact absurd H (by simp)
 rw [if_pos c3] at H
 have c3b0 := decide_eq_true c3
 clear c3
 by_cases c4 : x8_1 < (l0.length : Int)
 case neg => rw [if_neg c4] at H; exact absurd H (by simp)
 rw [if_pos c4] at H
 have c4b0 := decide_eq_true c4
 clear c4
 have HC5 := Aside0.mk H
 clear H
 have p177 : 0 ≤ (x8_1 : Int) := of_decide_eq_true (by with_reducible assumption)
 have q177 : x8_1 < (l0.length : Int) := of_decide_eq_true (by with_reducible assumption)
 obtain ⟨ad177, e177, hx177_0⟩ := Kd.at_int HR0.out x8_1 p177 q177
 cases e177
 replace hx177_0 := (HB.out.cell (World.block_lt_of_cell? w _ hx177_0)).trans hx177_0
 replace p177 := eq_true p177
 replace q177 := eq_true q177
 go_upto_region 5 with (fail)
 go_cut [18] (fun v18 wc => ∃ (kq : Nat) (x18_4 : Bool), v18 = .bool x18_4 ∧ Aside0 (comps_Lists.j1 kq x3_1 x8_1 (rd l0 x8_1) l0 (l0.length : Int) x8_1 x18_4 = some r) ∧ Aside0 (kq ≤ k1) ∧ Aside0 (Kd.S (Kd.slice 3 (Kd.int .i64)) 56 wc w.heap.size (fun _ => True) u3 x3_1) ∧ Aside0 (Below w.heap.size w wc))
 case first =>
  have H := HC5.out
  clear HC5
  by_cases c6 : (rd l0 x8_1) < 0
  case neg =>
   rw [if_neg c6] at H
   have c6b0 := decide_eq_false c6
   clear c6
   (first | rw [c6b0] | (simp only [i64_w, i32_w]; rw [c6b0]) | skip)
   have H' := Aside0.mk H
   clear H
   go_wp2
   go_wp2
   repeat (go_quiet (fail); try go_wp2)
   go_meet
   case rel => exact ⟨_, (decide ((rd l0 x8_1) > 1000)), (by first | rfl | (simp; done) | (simp [*]; done)), H', ⟨by have := HK1.out; first | omega | exact Nat.le_refl _⟩, ⟨by (with_reducible repeat (first | apply Kd.S_alloc | apply Kd.S_drewN | apply Kd.S_drew)); exact HO_3.out⟩, ⟨by repeat (first | (with_reducible first | exact HB.out | apply below_alloc | apply pw_below_drewN | apply below_drew1) | exact HB.out)⟩⟩
  rw [if_pos c6] at H
  have c6b0 := decide_eq_true c6
  clear c6
  (first | rw [c6b0] | (simp only [i64_w, i32_w]; rw [c6b0]) | skip)
  have H' := Aside0.mk H
  clear H
  go_wp2
  go_wp2
  repeat (go_quiet (fail); try go_wp2)
  go_meet
  case rel => exact ⟨_, (true), (by first | rfl | (simp; done) | (simp [*]; done)), H', ⟨by have := HK1.out; first | omega | exact Nat.le_refl _⟩, ⟨by (with_reducible repeat (first | apply Kd.S_alloc | apply Kd.S_drewN | apply Kd.S_drew)); exact HO_3.out⟩, ⟨by repeat (first | (with_reducible first | exact HB.out | apply below_alloc | apply pw_below_drewN | apply below_drew1) | exact HB.out)⟩⟩
 clear HC5
 try clear p1
 try clear q1
 try clear hx1
 try clear c2
 try clear c2b0
 try clear p2
 try clear c3
 try clear c3b0
 try clear c4
 try clear c4b0
 try clear c6
 try clear c6b0
 try clear hx177_0
 try clear p177
 try clear q177
 obtain ⟨kq, x18_4, rfl, HA, HJ4, HO_3, HB⟩ := hcut
 obtain _ | kj4 := kq
 · exact absurd HA.out (by simp [comps_Lists.j1])
 have H := HA.out
 clear HA
 simp only [comps_Lists.j1] at H
 by_cases c7 : x18_4 = true
 case pos =>
  subst c7
  rw [if_pos rfl] at H
  have H' := Aside0.mk H
  clear H
  go_wp2
  go_wp2
  repeat (go_quiet (fail); try go_wp2)
  go_roundg kj4
  case measure => have := HK1.out; have := HJ4.out; omega
  case rel => exact ⟨(x3_1), (wrap64 (x8_1 + 1)), (by first | rfl | (simp; done) | (simp [*]; done)), H', ⟨by have := HK1.out; have := HJ4.out; omega⟩, ⟨by (with_reducible repeat (first | apply Kd.S_alloc | apply Kd.S_drewN | apply Kd.S_drew)); exact HO_3.out⟩, ⟨by repeat (first | (with_reducible first | exact HB.out | apply below_alloc | apply pw_below_drewN | apply below_drew1) | exact HB.out)⟩⟩
 replace c7 := Bool.eq_false_iff.mpr c7
 subst c7
 rw [if_neg (show ¬ (false = true) by decide)] at H
 have H' := Aside0.mk H
 clear H
 go_wp2
 go_wp2
 repeat (go_quiet (fail); try go_wp2)
 go_loopg [3] kj4 (fun kq v3 w' => ∃ (x3_3 : List (List Int)), Aside0 (comps_Lists.l1 kq x3_3 x8_1 (rd l0 x8_1) l0 (l0.length : Int) x8_1 = some r) ∧ Aside0 (kq ≤ kj4) ∧ Aside0 (Kd.S (Kd.slice 3 (Kd.int .i64)) 56 w' w.heap.size (fun _ => True) v3 x3_3) ∧ Aside0 (Below w.heap.size w w'))
 case atStart => exact ⟨(x3_1), H', ⟨Nat.le_refl _⟩, ⟨by (with_reducible repeat (first | apply Kd.S_alloc | apply Kd.S_drewN | apply Kd.S_drew)); exact HO_3.out⟩, ⟨by repeat (first | (with_reducible first | exact HB.out | apply below_alloc | apply pw_below_drewN | apply below_drew1) | exact HB.out)⟩⟩
 clear H'
 try clear p1
 try clear q1
 try clear hx1
 try clear c2
 try clear c2b0
 try clear p2
 try clear c3
 try clear c3b0
 try clear c4
 try clear c4b0
 try clear c6
 try clear c6b0
 try clear p6
 try clear c7
 try clear hx177_0
 try clear p1
 try clear p177
 try clear p2
 try clear q1
 try clear q177
 obtain ⟨x3_3, HA, HK3, HO_3, HB⟩ := hrel
 obtain _ | k3 := gk
 · exact absurd HA.out (by simp [comps_Lists.l1])
 have H := HA.out
 clear HA
 simp only [comps_Lists.l1] at H
 by_cases c8 : (x3_3.length : Int) ≤ (rd l0 x8_1)
 case pos =>
  rw [if_pos c8] at H
  have c8b0 := decide_eq_true c8
  clear c8
  by_cases c9 : x3_3.length < 5864062014805
  case neg => rw [if_neg c9] at H; exact absurd H (by simp)
  rw [if_pos c9] at H
  have LMc9 := Aside0.mk c9
  clear c9
  obtain ⟨y178, hy178⟩ : ∃ y_ : List (List Int), y_ = (x3_3 ++ [([] : List Int)]) := ⟨_, rfl⟩
  replace H : (comps_Lists.l1 k3 y178 x8_1 (rd l0 x8_1) l0 (l0.length : Int) x8_1) = some r := by first | (rw [hy178]; with_reducible exact H) | (have H2_ := (Option.bind_some _ _).symm.trans H; rw [hy178]; with_reducible exact H2_) | (have H2_ := (Option.bind_some _ _).symm.trans H; with_reducible exact H2_) | with_reducible exact H | (rw [hy178]; exact H) | exact H
  have Ny178 := Aside0.mk hy178
  clear hy178
  have H' := Aside0.mk H
  clear H
  obtain ⟨Ao10, co10, eo10⟩ := Kd.S_slice HO_3.out
  subst eo10
  go_wp2_with (first | ((with_reducible refine gate_builtin (b := .append) (xs := #[.tmp 23, .tmp 24]) rfl ?_); at_builtin; refine Kd.S_append (Kd.slice 3 (Kd.int .i64)) (w0 := w) w.heap.size rfl (.tmp 23) (.tmp 24) 63 56 (.slice none 0 0) 24 rfl Try.underlying63 info56 rfl (by decide) (by omega) (.slice Ao10 x3_3.length co10) x3_3 ([] : List Int) [.slice none 0 0] (fun _ => True) (fun _ => False) rfl rfl ?aP (fun k_ hk_ => hk_.elim) ?aF ?aO ?aB ?aS ?aL ?_; (case aP => exact Kd.M_row (Kd.R_nil _ _ _ _ _)); (case aB => exact (by repeat (first | (with_reducible first | exact HB.out | apply below_alloc | apply pw_below_drewN | apply below_drew1) | exact HB.out))); (case aF => exact (fun _ _ => trivial)); (case aO => exact (by (with_reducible repeat (first | apply Kd.S_alloc | apply Kd.S_drewN | apply Kd.S_drew)); exact Kd.S_mono HO_3.out (fun k_ hk => ⟨trivial, fun e_ => e_⟩))); (case aS => exact (below_size (by repeat (first | (with_reducible first | exact HB.out | apply below_alloc | apply pw_below_drewN | apply below_drew1) | exact HB.out)))); (case aL => have := LMc9.out; omega); intro v179 w11 ho hb hg hat; rw [← Ny178.out] at ho; have n0_ := Aside0.mk (hb); have n1_ := Aside0.mk (ho); clear HB; clear HO_3; have HB := n0_; have HO180 := n1_; clear n0_ n1_; clear ho hb hg hat))
  go_wp2
  repeat (go_quiet (fail); try go_wp2)
  go_roundg k3
  case measure => have := HK1.out; have := HJ4.out; have := HK3.out; omega
  case rel => exact ⟨(y178), H', ⟨by have := HK1.out; have := HJ4.out; have := HK3.out; omega⟩, ⟨by (with_reducible repeat (first | apply Kd.S_alloc | apply Kd.S_drewN | apply Kd.S_drew)); exact HO180.out⟩, ⟨by repeat (first | (with_reducible first | exact HB.out | apply below_alloc | apply pw_below_drewN | apply below_drew1) | exact HB.out)⟩⟩
 rw [if_neg c8] at H
 have c8b0 := decide_eq_false c8
 clear c8
 by_cases c12 : 0 ≤ (rd l0 x8_1)
 case neg => rw [if_neg c12] at H; exact absurd H (by simp)
 rw [if_pos c12] at H
 have c12b0 := decide_eq_true c12
 clear c12
 by_cases c13 : (rd l0 x8_1) < (x3_3.length : Int)
 case neg => rw [if_neg c13] at H; exact absurd H (by simp)
 rw [if_pos c13] at H
 have c13b0 := decide_eq_true c13
 clear c13
 by_cases c14 : (rd_L7 x3_3 (rd l0 x8_1)).length < 17592186044416
 case neg => rw [if_neg c14] at H; exact absurd H (by simp)
 rw [if_pos c14] at H
 have LMc14 := Aside0.mk c14
 clear c14
 obtain ⟨y182, hy182⟩ : ∃ y_ : List Int, y_ = ((rd_L7 x3_3 (rd l0 x8_1)) ++ [x8_1]) := ⟨_, rfl⟩
 replace H : (comps_Lists.l0 k3 (x3_3.set ((rd l0 x8_1) : Int).toNat y182) l0 (l0.length : Int) (wrap64 (x8_1 + 1))) = some r := by first | (rw [hy182]; with_reducible exact H) | (have H2_ := (Option.bind_some _ _).symm.trans H; rw [hy182]; with_reducible exact H2_) | (have H2_ := (Option.bind_some _ _).symm.trans H; with_reducible exact H2_) | with_reducible exact H | (rw [hy182]; exact H) | exact H
 have Ny182 := Aside0.mk hy182
 clear hy182
 obtain ⟨y185, hy185⟩ : ∃ y_ : List (List Int), y_ = (x3_3.set ((rd l0 x8_1) : Int).toNat y182) := ⟨_, rfl⟩
 replace H : (comps_Lists.l0 k3 y185 l0 (l0.length : Int) (wrap64 (x8_1 + 1))) = some r := by first | (rw [hy185]; with_reducible exact H) | (have H2_ := (Option.bind_some _ _).symm.trans H; rw [hy185]; with_reducible exact H2_) | (have H2_ := (Option.bind_some _ _).symm.trans H; with_reducible exact H2_) | with_reducible exact H | (rw [hy185]; exact H) | exact H
 have Ny185 := Aside0.mk hy185
 clear hy185
 have H' := Aside0.mk H
 clear H
 obtain ⟨Ao16, co16, eo16⟩ := Kd.S_slice HO_3.out
 subst eo16
 have p181 : 0 ≤ ((rd l0 x8_1) : Int) := of_decide_eq_true (by with_reducible assumption)
 have q181 : (rd l0 x8_1) < (x3_3.length : Int) := of_decide_eq_true (by with_reducible assumption)
 obtain ⟨ad181, A181_0, c181_0, e181, hx181_0, hl181_0, hi181_0⟩ := at_L7 (Kd.S_reads' HO_3.out).2.2 (rd l0 x8_1) p181 q181
 cases e181
 obtain ⟨ce181, hce181, hMe181, hcc181⟩ := Kd.S_get HO_3.out [] (rd l0 x8_1) p181 (by first | exact q181 | exact of_decide_eq_true (by with_reducible assumption) | (have e_ := (Kd.S_reads' HO_3.out).1; omega))
 obtain ⟨ve181_0, rfl, ge181_0⟩ := hMe181
 have hv181_0 := hcc181 0 _ rfl
 rw [Nat.add_zero, show ((Kd.slice 3 (Kd.int .i64))).sz = 1 from rfl, Nat.mul_one] at hv181_0
 replace hv181_0 := Option.some.inj (hv181_0.symm.trans hx181_0)
 rw [hv181_0] at ge181_0
 have HL181_0 := Aside0.mk (show Kd.R (Kd.int .i64) 3 _ _ _ _ (rd_L7 x3_3 (rd l0 x8_1)) from ge181_0)
 clear hv181_0 ge181_0
 have HX181_0 := Aside0.mk hx181_0
 clear hcc181 hce181
 have HR181_0 := Aside0.mk hi181_0
 have HC181_0 := Aside0.mk hl181_0
 clear hi181_0 hl181_0
 replace p181 := eq_true p181
 replace q181 := eq_true q181
 obtain ⟨go17, co17, eo17, gb17, gl17, cl17, HG17⟩ := Kd.S_form HO_3.out (by have h_ : ((rd l0 x8_1) : Int) < ((x3_3.length : Int) : Int) := of_decide_eq_true (by with_reducible assumption); have h2_ : 0 ≤ ((rd l0 x8_1) : Int) := (of_decide_eq_true (by with_reducible assumption)); omega)
 (first | cases eo17 | (injection eo17 with ea_ en_ ec_; (first | subst ea_ | (injection ea_ with ea_; subst ea_)); subst ec_; clear en_))
 have GB17 := Aside0.mk gb17
 have GG17 := Aside0.mk HG17
 clear gb17 gl17 HG17
 (first | simp only [add_plain] at hx181_0 | skip)
 obtain ⟨oki17, ce17, hcl17, hM17, hcc17, _, _, hH17⟩ := Kd.S_elem HO_3.out [] ((rd l0 x8_1) : Int) (of_decide_eq_true (by with_reducible assumption)) (by have h_ : ((rd l0 x8_1) : Int) < ((x3_3.length : Int) : Int) := of_decide_eq_true (by with_reducible assumption); first | exact h_ | (have e_ := (Kd.S_reads' HO_3.out).1; omega) | simpa using h_)
 obtain ⟨ve17_0, rfl, ge17_0⟩ := hM17
 have hv17 := hcc17 0 _ rfl
 have hX17 := HX181_0.out
 (try simp only [add_plain] at hX17)
 (try simp only [Nat.add_zero] at hv17)
 (try rw [show ((Kd.slice 3 (Kd.int .i64))).sz = 1 from rfl, Nat.mul_one] at hv17)
 replace hv17 := Option.some.inj (hv17.symm.trans hX17)
 subst hv17
 clear hX17 hcc17 hcl17
 have UU17 := Aside0.mk (show Kd.R (Kd.int .i64) 3 _ w.heap.size oki17 (.slice A181_0 (rd_L7 x3_3 (rd l0 x8_1)).length c181_0) (rd_L7 x3_3 (rd l0 x8_1)) from ge17_0)
 have HH17 := Aside0.mk hH17
 have HN17 := Aside0.mk (Kd.S_reads' HO_3.out).1
 clear hH17 ge17_0
 go_wp2_with (first | ((with_reducible refine gate_builtin (b := .append) (xs := #[.tmp 31, .tmp 33]) rfl ?_); at_builtin; refine Kd.R_append (Kd.int .i64) (w0 := w) w.heap.size rfl (.tmp 31) (.tmp 33) 56 3 (.int .i64 0) 8 rfl Try.underlying56 info3 rfl (by decide) (by omega) (.slice A181_0 (rd_L7 x3_3 (rd l0 x8_1)).length c181_0) (rd_L7 x3_3 (rd l0 x8_1)) x8_1 [.int .i64 x8_1] (fun k_ => oki17 k_ ∨ ((fun _ => True)) k_ ∧ wr.heap.size ≤ k_) (fun _ => False) rfl rfl ?aP (fun _ hk => hk.elim) ?aF ?aO ?aB ?aS ?aL ?_; (case aP => exact rfl); (case aB => exact (by repeat (first | (with_reducible first | exact HB.out | apply below_alloc | apply pw_below_drewN | apply below_drew1) | exact HB.out))); (case aF => exact (fun k_ hk => .inr ⟨trivial, hk⟩)); (case aO => exact (by (with_reducible repeat (first | apply Kd.R_alloc | apply Kd.R_drewN | apply Kd.R_drew)); exact Kd.R_mono UU17.out (fun _ hk => .inl hk))); (case aS => exact (below_size (by repeat (first | (with_reducible first | exact HB.out | apply below_alloc | apply pw_below_drewN | apply below_drew1) | exact HB.out)))); (case aL => have := LMc14.out; omega); intro v183 w18 ho hb hg hat; rw [← Ny182.out] at ho; have n0_ := Aside0.mk (hb); have n1_ := Aside0.mk (Kd.H_grown (Kd.H_widen (by repeat (first | exact HH17.out | refine Kd.H_alloc ?_ _ | refine Kd.H_drewN ?_ _ | refine Kd.H_drew ?_))) hg (fun k_ e_ => .inl (UU17.out.1 k_ e_))); have n2_ := Aside0.mk (ho); clear HB; clear HH17; clear HO_3; clear UU17; clear HL181_0; have HB := n0_; have HH17 := n1_; have HO184 := n2_; clear n0_ n1_ n2_; clear ho hb hg hat; have p15 : 0 ≤ ((rd l0 x8_1) : Int) := of_decide_eq_true (by with_reducible assumption); have q15 : ((rd l0 x8_1) : Int) < ((x3_3.length : Int) : Int) := of_decide_eq_true (by with_reducible assumption); replace p15 := eq_true p15; replace q15 := eq_true q15; obtain ⟨Ao21, co21, eo21⟩ := Kd.R_slice HO184.out; subst eo21; obtain ⟨_, _, hraw19, _, _, hcc19, _⟩ := Kd.H_raw HH17.out (of_decide_eq_true (by with_reducible assumption)) (by have h_ : ((rd l0 x8_1) : Int) < ((x3_3.length : Int) : Int) := of_decide_eq_true (by with_reducible assumption); first | exact h_ | (have e_ := (HN17.out); omega) | simpa using h_); obtain ⟨_, hfr19⟩ := Kd.H_at HH17.out (of_decide_eq_true (by with_reducible assumption)) (by have h_ : ((rd l0 x8_1) : Int) < ((x3_3.length : Int) : Int) := of_decide_eq_true (by with_reducible assumption); first | exact h_ | (have e_ := (HN17.out); omega) | simpa using h_); have hx19_0 := hcc19 0 _ rfl; have hf19_0 := hfr19 0; (try simp only [Nat.add_zero] at hx19_0 hf19_0); (try rw [show ((Kd.slice 3 (Kd.int .i64))).sz = 1 from rfl, Nat.mul_one] at hx19_0); (try rw [show ((Kd.slice 3 (Kd.int .i64))).sz = 1 from rfl, Nat.mul_one] at hf19_0); have HP19 := Kd.S_seg0 HH17.out (of_decide_eq_true (by with_reducible assumption)) (by have h_ : ((rd l0 x8_1) : Int) < ((x3_3.length : Int) : Int) := of_decide_eq_true (by with_reducible assumption); first | exact h_ | (have e_ := (HN17.out); omega) | simpa using h_) (seg := [.slice Ao21 y182.length co21]) (j := 0) (show 1 ≤ 1 from by decide) (x' := y182) (Kd.M_row HO184.out) (fun _ hk => hk); (try simp only [show ((Kd.slice 3 (Kd.int .i64))).sz = 1 from rfl, Nat.mul_one, Nat.add_zero] at HP19); clear hcc19 hfr19) | ((with_reducible refine gate_store (t := 56) (p := 35) rfl ?_); refine store_event (t := 56) (p := 35) (v := ?vo_w20) (w1 := (w18.setCell ⟨go17, ((rd l0 x8_1) : Int).toNat, none⟩ (.slice Ao21 y182.length co21))) ?hg ?ho ?hn ?hr ?_; (case ho => rfl); (case hg => rfl); (case hn => rfl); (case hr => first | (go_simp; done) | (go_simp; rfl)); intro w20 hw; have hg : w18.grownBy w20 (some go17) := (by rw [hw]; exact HP19.2); have hp_ : Kd.S (Kd.slice 3 (Kd.int .i64)) 56 w20 w.heap.size (fun _ => True) (.slice (some ⟨go17, 0, none⟩) x3_3.length co16) y185 := (by rw [hw, Ny185.out]; exact HP19.1); clear HP19; have n0_ := Aside0.mk ((by rw [hw]; exact below_set HB.out GB17.out : Below w.heap.size w w20)); have n1_ := Aside0.mk (hp_); clear HB; clear HO184; clear HH17; have HB := n0_; have HO_3 := n1_; clear n0_ n1_; clear hg hw hp_ hraw19))
 go_wp2
 repeat (go_quiet (fail); try go_wp2)
 go_roundg k3
 case measure => have := HK1.out; have := HJ4.out; have := HK3.out; omega
 case rel => exact ⟨(y185), (wrap64 (x8_1 + 1)), (by first | rfl | (simp; done) | (simp [*]; done)), H', ⟨by have := HK1.out; have := HJ4.out; have := HK3.out; omega⟩, ⟨by (with_reducible repeat (first | apply Kd.S_alloc | apply Kd.S_drewN | apply Kd.S_drew)); exact HO_3.out⟩, ⟨by repeat (first | (with_reducible first | exact HB.out | apply below_alloc | apply pw_below_drewN | apply below_drew1) | exact HB.out)⟩⟩
def cmp_isNaN_string.f (a0 : ByteArray) : Option (Bool) := some (a0.toList != a0.toList)
set_option maxHeartbeats 8000000 in
set_option maxRecDepth 100000 in
theorem cmp_isNaN_string.calls (a0 : ByteArray) (r : Bool) (w : World) (h : cmp_isNaN_string.f a0 = some r) :
 Calls Try.prog 51 #[.string a0] w fun e w' => e = .returned (.bool r) ∧ Drawn0 w w' := by
 have H : (some (a0.toList != a0.toList)) = some r := h
 clear h
 obtain rfl := Option.some.inj H
 go_enter Try.func51, Try.ntmps51
 go_wp2
 go_wp2
 repeat (go_quiet (fail); try go_wp2)
 go_ret
 exact ⟨by first | rfl | (simp; done) | (simp [*]; done), by repeat (first | exact Drawn0.refl _ | apply Drawn0.step)⟩
def cmp_Less_string.f (a0 : ByteArray) (a1 : ByteArray) : Option (Bool) := (cmp_isNaN_string.f a0).bind fun t186 => (if t186 = true then ((cmp_isNaN_string.f a1).bind fun t187 => (if t187 = true then (some (Op.bytesLess a0.toList a1.toList)) else (some true))) else (some (Op.bytesLess a0.toList a1.toList)))
set_option maxHeartbeats 8000000 in
set_option maxRecDepth 100000 in
theorem cmp_Less_string.calls (a0 : ByteArray) (a1 : ByteArray) (r : Bool) (w : World) (h : cmp_Less_string.f a0 a1 = some r) :
 Calls Try.prog 44 #[.string a0, .string a1] w fun e w' => e = .returned (.bool r) ∧ Drawn0 w w' := by
 have H : ((cmp_isNaN_string.f a0).bind fun t186 => (if t186 = true then ((cmp_isNaN_string.f a1).bind fun t187 => (if t187 = true then (some (Op.bytesLess a0.toList a1.toList)) else (some true))) else (some (Op.bytesLess a0.toList a1.toList)))) = some r := h
 clear h
 replace H := Option.bind_eq_some_iff.mp H
 obtain ⟨t186, A30, H⟩ := H
 have A3 := Aside0.mk A30
 clear A30
 by_cases c4 : t186 = true
 case neg =>
  replace c4 := Bool.eq_false_iff.mpr c4
  subst c4
  rw [if_neg (show ¬ (false = true) by decide)] at H
  obtain rfl := Option.some.inj H
  go_enter Try.func44, Try.ntmps44
  go_wp2_with (first | ((with_reducible refine gate_callee (f := 51) rfl ?_); refine goesL_ (some 6) rfl rfl Try.func51 (by kernel_rfl) rfl #[.string a0] rfl (by (try simp only [List.map_toArray, List.map_cons, List.map_nil]); first | done | rfl | (simp only [List.length_drop, List.length_take]; rfl)) ?_; (with_reducible refine (cmp_isNaN_string.calls a0 false _ A3.out).mono ?_); rintro e w' ⟨rfl, ⟨nd, rfl⟩⟩; refine ⟨_, rfl, ?_⟩))
  go_wp2
  repeat (go_quiet (fail); try go_wp2)
  go_ret
  exact ⟨by first | rfl | (simp; done) | (simp [*]; done), by repeat (first | exact Drawn0.refl _ | apply Drawn0.step)⟩
 subst c4
 rw [if_pos rfl] at H
 replace H := Option.bind_eq_some_iff.mp H
 obtain ⟨t187, A50, H⟩ := H
 have A5 := Aside0.mk A50
 clear A50
 by_cases c6 : t187 = true
 case pos =>
  subst c6
  rw [if_pos rfl] at H
  obtain rfl := Option.some.inj H
  go_enter Try.func44, Try.ntmps44
  go_wp2_with (first | ((with_reducible refine gate_callee (f := 51) rfl ?_); refine goesL_ (some 6) rfl rfl Try.func51 (by kernel_rfl) rfl #[.string a0] rfl (by (try simp only [List.map_toArray, List.map_cons, List.map_nil]); first | done | rfl | (simp only [List.length_drop, List.length_take]; rfl)) ?_; (with_reducible refine (cmp_isNaN_string.calls a0 true _ A3.out).mono ?_); rintro e w' ⟨rfl, ⟨nd, rfl⟩⟩; refine ⟨_, rfl, ?_⟩) | (go_at_call 51; (with_reducible refine (cmp_isNaN_string.calls a1 true _ A5.out).mono ?_); rintro e w' ⟨rfl, ⟨nd, rfl⟩⟩))
  go_wp2
  repeat (go_quiet (fail); try go_wp2)
  go_ret
  exact ⟨by first | rfl | (simp; done) | (simp [*]; done), by repeat (first | exact Drawn0.refl _ | apply Drawn0.step)⟩
 replace c6 := Bool.eq_false_iff.mpr c6
 subst c6
 rw [if_neg (show ¬ (false = true) by decide)] at H
 obtain rfl := Option.some.inj H
 go_enter Try.func44, Try.ntmps44
 go_wp2_with (first | ((with_reducible refine gate_callee (f := 51) rfl ?_); refine goesL_ (some 6) rfl rfl Try.func51 (by kernel_rfl) rfl #[.string a0] rfl (by (try simp only [List.map_toArray, List.map_cons, List.map_nil]); first | done | rfl | (simp only [List.length_drop, List.length_take]; rfl)) ?_; (with_reducible refine (cmp_isNaN_string.calls a0 true _ A3.out).mono ?_); rintro e w' ⟨rfl, ⟨nd, rfl⟩⟩; refine ⟨_, rfl, ?_⟩) | (go_at_call 51; (with_reducible refine (cmp_isNaN_string.calls a1 false _ A5.out).mono ?_); rintro e w' ⟨rfl, ⟨nd, rfl⟩⟩))
 go_wp2
 repeat (go_quiet (fail); try go_wp2)
 go_ret
 exact ⟨by first | rfl | (simp; done) | (simp [*]; done), by repeat (first | exact Drawn0.refl _ | apply Drawn0.step)⟩
def slices_isNaN_string.f (a0 : ByteArray) : Option (Bool) := some (a0.toList != a0.toList)
set_option maxHeartbeats 8000000 in
set_option maxRecDepth 100000 in
theorem slices_isNaN_string.calls (a0 : ByteArray) (r : Bool) (w : World) (h : slices_isNaN_string.f a0 = some r) :
 Calls Try.prog 45 #[.string a0] w fun e w' => e = .returned (.bool r) ∧ Drawn0 w w' := by
 have H : (some (a0.toList != a0.toList)) = some r := h
 clear h
 obtain rfl := Option.some.inj H
 go_enter Try.func45, Try.ntmps45
 go_wp2
 go_wp2
 repeat (go_quiet (fail); try go_wp2)
 go_ret
 exact ⟨by first | rfl | (simp; done) | (simp [*]; done), by repeat (first | exact Drawn0.refl _ | apply Drawn0.step)⟩
def slices_BinarySearch_string_string.l0 : Nat → List ByteArray → ByteArray → Int → Int → Int → Option (Int × Bool)
  | 0, _, _, _, _, _ => none
  | k + 1, x0, x1, x6, x7, x8 => if x7 < x8 then (if 0 ≤ (wrap64 ((IntKind.u64.wrap (wrap64 (x7 + x8))) / 2)) then (if (wrap64 ((IntKind.u64.wrap (wrap64 (x7 + x8))) / 2)) < (x0.length : Int) then ((cmp_Less_string.f (rdOf ByteArray.empty x0 (wrap64 ((IntKind.u64.wrap (wrap64 (x7 + x8))) / 2))) x1).bind fun t189 => (if t189 = true then (slices_BinarySearch_string_string.l0 k x0 x1 x6 (wrap64 ((wrap64 ((IntKind.u64.wrap (wrap64 (x7 + x8))) / 2)) + 1)) x8) else (slices_BinarySearch_string_string.l0 k x0 x1 x6 x7 (wrap64 ((IntKind.u64.wrap (wrap64 (x7 + x8))) / 2))))) else (none)) else (none)) else (if x7 < x6 then (if 0 ≤ x7 then (if x7 < (x0.length : Int) then (if (rdOf ByteArray.empty x0 x7).toList = x1.toList then (some (x7, true)) else ((slices_isNaN_string.f (rdOf ByteArray.empty x0 x7)).bind fun t192 => (if t192 = true then ((slices_isNaN_string.f x1).bind fun t193 => (some (x7, t193))) else (some (x7, false))))) else (none)) else (none)) else (some (x7, false)))
def slices_BinarySearch_string_string.f (k : Nat) (l0 : List ByteArray) (a1 : ByteArray) : Option (Int × Bool) := slices_BinarySearch_string_string.l0 k l0 a1 (l0.length : Int) 0 (l0.length : Int)
theorem slices_BinarySearch_string_string.mono_l : ∀ k, (∀ y0 y1 y2 y3 y4, LeO (slices_BinarySearch_string_string.l0 k y0 y1 y2 y3 y4) (slices_BinarySearch_string_string.l0 (k + 1) y0 y1 y2 y3 y4))
  | 0 => fun _ _ _ _ _ r h => by simp [slices_BinarySearch_string_string.l0] at h
  | k + 1 => by
    have ih0 := slices_BinarySearch_string_string.mono_l k
    · intro y0 y1 y2 y3 y4
      unfold slices_BinarySearch_string_string.l0
      repeat' first
      | (with_reducible exact ih0 _ _ _ _ _)
      | (with_reducible exact LeO.refl _)
      | (with_reducible exact LeO.none _)
      | (with_reducible refine LeO.ite ?_ ?_)
      | (with_reducible refine LeO.bind ?_ (fun _ => ?_))
theorem slices_BinarySearch_string_string.mono : ∀ a0 a1 k, LeO (slices_BinarySearch_string_string.f k a0 a1) (slices_BinarySearch_string_string.f (k + 1) a0 a1) := by
 intro a0 a1 k
 have ih0 := slices_BinarySearch_string_string.mono_l k
 unfold slices_BinarySearch_string_string.f
 repeat' first
  | (with_reducible exact ih0 _ _ _ _ _)
  | (with_reducible exact LeO.refl _)
  | (with_reducible exact LeO.none _)
  | (with_reducible refine LeO.ite ?_ ?_)
  | (with_reducible refine LeO.bind ?_ (fun _ => ?_))
set_option maxHeartbeats 8000000 in
set_option maxRecDepth 100000 in
theorem slices_BinarySearch_string_string.calls (k : Nat) (A0 : Option Addr) (c0 : Nat) (l0 : List ByteArray) (a1 : ByteArray) (r1 : Int) (r2 : Bool) (w : World) (hr0 : Kd.C Kd.string w A0 l0.length l0) (hc0 : l0.length ≤ c0) (h : slices_BinarySearch_string_string.f k l0 a1 = some (r1, r2)) :
 Calls Try.prog 28 #[.slice A0 l0.length c0, .string a1] w fun e w' => e = .returned (.tuple #[.int .i64 r1, .bool r2]) ∧ Drawn0 w w' := by
 have HR0 := Aside0.mk hr0
 have HC0 := Aside0.mk hc0
 clear hr0 hc0
 have H : (slices_BinarySearch_string_string.l0 k l0 a1 (l0.length : Int) 0 (l0.length : Int)) = some (r1, r2) := h
 clear h
 have H' := Aside0.mk H
 clear H
 go_enter Try.func28, Try.ntmps28
 go_wp2
 go_wp2
 repeat (go_quiet (fail); try go_wp2)
 go_loopg [7, 8] k (fun kq v7 v8 w' => ∃ (x7_1 : Int) (x8_1 : Int), v7 = .int .i64 x7_1 ∧ v8 = .int .i64 x8_1 ∧ Aside0 (slices_BinarySearch_string_string.l0 kq l0 a1 (l0.length : Int) x7_1 x8_1 = some (r1, r2)) ∧ Aside0 (kq ≤ k) ∧ Drawn0 w w')
 case atStart => exact ⟨(0), ((l0.length : Int)), (by first | rfl | (simp; done) | (simp [*]; done)), (by first | rfl | (simp; done) | (simp [*]; done)), H', ⟨Nat.le_refl _⟩, by repeat (first | exact Drawn0.refl _ | apply Drawn0.step)⟩
 clear H'
 try clear c2
 try clear p2
 obtain ⟨x7_1, x8_1, rfl, rfl, HA, HK1, ⟨m1, rfl⟩⟩ := hrel
 obtain _ | k1 := gk
 · exact absurd HA.out (by simp [slices_BinarySearch_string_string.l0])
 have H := HA.out
 clear HA
 simp only [slices_BinarySearch_string_string.l0] at H
 by_cases c3 : x7_1 < x8_1
 case pos =>
  rw [if_pos c3] at H
  have c3b0 := decide_eq_true c3
  clear c3
  obtain ⟨ji4, hji4⟩ : ∃ j_ : Int, (wrap64 ((IntKind.u64.wrap (wrap64 (x7_1 + x8_1))) / 2)) = j_ := ⟨_, rfl⟩
  replace H : (if 0 ≤ (ji4) then (if (ji4) < (l0.length : Int) then ((cmp_Less_string.f (rdOf ByteArray.empty l0 (ji4)) a1).bind fun t189 => (if t189 = true then (slices_BinarySearch_string_string.l0 k1 l0 a1 (l0.length : Int) (wrap64 ((ji4) + 1)) x8_1) else (slices_BinarySearch_string_string.l0 k1 l0 a1 (l0.length : Int) x7_1 ji4))) else (none)) else (none)) = some (r1, r2) := by first | (rw [hji4] at H; exact H) | (simp only [hji4] at H ⊢; exact H)
  have hji4w : (IntKind.i64.wrap ((IntKind.u64.wrap (wrap64 (x7_1 + x8_1))) / 2)) = ji4 := (i64_w _).trans hji4
  by_cases c5 : 0 ≤ (ji4)
  case neg => rw [if_neg c5] at H; exact absurd H (by simp)
  rw [if_pos c5] at H
  have c5b0 := decide_eq_true c5
  clear c5
  by_cases c6 : (ji4) < (l0.length : Int)
  case neg => rw [if_neg c6] at H; exact absurd H (by simp)
  rw [if_pos c6] at H
  have c6b0 := decide_eq_true c6
  clear c6
  replace H := Option.bind_eq_some_iff.mp H
  obtain ⟨t189, A70, H⟩ := H
  have A7 := Aside0.mk A70
  clear A70
  by_cases c8 : t189 = true
  case pos =>
   subst c8
   rw [if_pos rfl] at H
   have H' := Aside0.mk H
   clear H
   have p188 : 0 ≤ ((ji4) : Int) := of_decide_eq_true (by with_reducible assumption)
   have q188 : (ji4) < (l0.length : Int) := of_decide_eq_true (by with_reducible assumption)
   obtain ⟨ad188, e188, hx188_0⟩ := Kd.at_string HR0.out (ji4) p188 q188
   cases e188
   replace p188 := eq_true p188
   replace q188 := eq_true q188
   go_wp2_with (first | ((with_reducible refine gate_callee (f := 44) rfl ?_); refine goesL_ (some 27) rfl rfl Try.func44 (by kernel_rfl) rfl #[.string (rdOf ByteArray.empty l0 (ji4)), .string a1] rfl (by (try simp only [List.map_toArray, List.map_cons, List.map_nil]); first | done | (simp only [hji4]; rfl) | rfl | (simp only [List.length_drop, List.length_take]; rfl)) ?_; (with_reducible refine (cmp_Less_string.calls (rdOf ByteArray.empty l0 (ji4)) a1 true _ A7.out).mono ?_); rintro e w' ⟨rfl, ⟨nd, rfl⟩⟩; refine ⟨_, rfl, ?_⟩))
   go_wp2
   repeat (go_quiet (fail); try go_wp2)
   go_roundg k1
   case measure => have := HK1.out; omega
   case rel => exact ⟨(wrap64 ((ji4) + 1)), (x8_1), (by first | rfl | (simp; done) | (simp only [← hji4] <;> (first | rfl | simp)) | (simp [*]; done)), (by first | rfl | (simp; done) | (simp [*]; done)), H', ⟨by have := HK1.out; omega⟩, by repeat (first | exact Drawn0.refl _ | apply Drawn0.step)⟩
  replace c8 := Bool.eq_false_iff.mpr c8
  subst c8
  rw [if_neg (show ¬ (false = true) by decide)] at H
  have H' := Aside0.mk H
  clear H
  have p188 : 0 ≤ ((ji4) : Int) := of_decide_eq_true (by with_reducible assumption)
  have q188 : (ji4) < (l0.length : Int) := of_decide_eq_true (by with_reducible assumption)
  obtain ⟨ad188, e188, hx188_0⟩ := Kd.at_string HR0.out (ji4) p188 q188
  cases e188
  replace p188 := eq_true p188
  replace q188 := eq_true q188
  go_wp2_with (first | ((with_reducible refine gate_callee (f := 44) rfl ?_); refine goesL_ (some 27) rfl rfl Try.func44 (by kernel_rfl) rfl #[.string (rdOf ByteArray.empty l0 (ji4)), .string a1] rfl (by (try simp only [List.map_toArray, List.map_cons, List.map_nil]); first | done | (simp only [hji4]; rfl) | rfl | (simp only [List.length_drop, List.length_take]; rfl)) ?_; (with_reducible refine (cmp_Less_string.calls (rdOf ByteArray.empty l0 (ji4)) a1 false _ A7.out).mono ?_); rintro e w' ⟨rfl, ⟨nd, rfl⟩⟩; refine ⟨_, rfl, ?_⟩))
  go_wp2
  repeat (go_quiet (fail); try go_wp2)
  go_roundg k1
  case measure => have := HK1.out; omega
  case rel => exact ⟨(x7_1), (ji4), (by first | rfl | (simp; done) | (simp [*]; done)), (by first | rfl | (simp; done) | (simp only [← hji4] <;> (first | rfl | simp)) | (simp [*]; done)), H', ⟨by have := HK1.out; omega⟩, by repeat (first | exact Drawn0.refl _ | apply Drawn0.step)⟩
 rw [if_neg c3] at H
 have c3b0 := decide_eq_false c3
 clear c3
 by_cases c9 : x7_1 < (l0.length : Int)
 case neg =>
  rw [if_neg c9] at H
  have c9b0 := decide_eq_false c9
  clear c9
  simp only [Option.some.injEq, Prod.mk.injEq] at H
  obtain ⟨rfl, rfl⟩ := H
  go_wp2
  go_wp2
  repeat (go_quiet (fail); try go_wp2)
  go_ret2
  exact ⟨by first | rfl | (simp; done) | (simp [*]; done), by repeat (first | exact Drawn0.refl _ | apply Drawn0.step)⟩
 rw [if_pos c9] at H
 have c9b0 := decide_eq_true c9
 clear c9
 by_cases c10 : 0 ≤ x7_1
 case neg => rw [if_neg c10] at H; exact absurd H (by simp)
 rw [if_pos c10] at H
 have c10b0 := decide_eq_true c10
 clear c10
 by_cases c11 : x7_1 < (l0.length : Int)
 case neg => rw [if_neg c11] at H; exact absurd H (by simp)
 rw [if_pos c11] at H
 have c11b0 := decide_eq_true c11
 clear c11
 by_cases c12 : (rdOf ByteArray.empty l0 x7_1).toList = a1.toList
 case pos =>
  rw [if_pos c12] at H
  have c12b0 := beq_iff_eq.mpr c12
  have c12b1 := bne_eq_false_iff_eq.mpr c12
  clear c12
  simp only [Option.some.injEq, Prod.mk.injEq] at H
  obtain ⟨rfl, rfl⟩ := H
  have p190 : 0 ≤ (x7_1 : Int) := of_decide_eq_true (by with_reducible assumption)
  have q190 : x7_1 < (l0.length : Int) := of_decide_eq_true (by with_reducible assumption)
  obtain ⟨ad190, e190, hx190_0⟩ := Kd.at_string HR0.out x7_1 p190 q190
  cases e190
  replace p190 := eq_true p190
  replace q190 := eq_true q190
  go_wp2
  go_wp2
  repeat (go_quiet (fail); try go_wp2)
  go_ret2
  exact ⟨by first | rfl | (simp; done) | (simp [*]; done), by repeat (first | exact Drawn0.refl _ | apply Drawn0.step)⟩
 rw [if_neg c12] at H
 have c12b0 := beq_eq_false_iff_ne.mpr c12
 have c12b1 := bne_iff_ne.mpr c12
 replace H := Option.bind_eq_some_iff.mp H
 obtain ⟨t192, A130, H⟩ := H
 have A13 := Aside0.mk A130
 clear A130
 by_cases c14 : t192 = true
 case neg =>
  replace c14 := Bool.eq_false_iff.mpr c14
  subst c14
  rw [if_neg (show ¬ (false = true) by decide)] at H
  simp only [Option.some.injEq, Prod.mk.injEq] at H
  obtain ⟨rfl, rfl⟩ := H
  have p190 : 0 ≤ (x7_1 : Int) := of_decide_eq_true (by with_reducible assumption)
  have q190 : x7_1 < (l0.length : Int) := of_decide_eq_true (by with_reducible assumption)
  obtain ⟨ad190, e190, hx190_0⟩ := Kd.at_string HR0.out x7_1 p190 q190
  cases e190
  replace p190 := eq_true p190
  replace q190 := eq_true q190
  have p191 : 0 ≤ (x7_1 : Int) := of_decide_eq_true (by with_reducible assumption)
  have q191 : x7_1 < (l0.length : Int) := of_decide_eq_true (by with_reducible assumption)
  obtain ⟨ad191, e191, hx191_0⟩ := Kd.at_string HR0.out x7_1 p191 q191
  obtain rfl : ad190 = ad191 := (by injection e191)
  replace p191 := eq_true p191
  replace q191 := eq_true q191
  go_wp2_with (first | (go_at_call 45; (with_reducible refine (slices_isNaN_string.calls (rdOf ByteArray.empty l0 x7_1) false _ A13.out).mono ?_); rintro e w' ⟨rfl, ⟨nd, rfl⟩⟩))
  go_wp2
  repeat (go_quiet (fail); try go_wp2)
  go_ret2
  exact ⟨by first | rfl | (simp; done) | (simp [*]; done), by repeat (first | exact Drawn0.refl _ | apply Drawn0.step)⟩
 subst c14
 rw [if_pos rfl] at H
 replace H := Option.bind_eq_some_iff.mp H
 obtain ⟨t193, A150, H⟩ := H
 have A15 := Aside0.mk A150
 clear A150
 simp only [Option.some.injEq, Prod.mk.injEq] at H
 obtain ⟨rfl, rfl⟩ := H
 have p190 : 0 ≤ (x7_1 : Int) := of_decide_eq_true (by with_reducible assumption)
 have q190 : x7_1 < (l0.length : Int) := of_decide_eq_true (by with_reducible assumption)
 obtain ⟨ad190, e190, hx190_0⟩ := Kd.at_string HR0.out x7_1 p190 q190
 cases e190
 replace p190 := eq_true p190
 replace q190 := eq_true q190
 have p191 : 0 ≤ (x7_1 : Int) := of_decide_eq_true (by with_reducible assumption)
 have q191 : x7_1 < (l0.length : Int) := of_decide_eq_true (by with_reducible assumption)
 obtain ⟨ad191, e191, hx191_0⟩ := Kd.at_string HR0.out x7_1 p191 q191
 obtain rfl : ad190 = ad191 := (by injection e191)
 replace p191 := eq_true p191
 replace q191 := eq_true q191
 go_wp2_with (first | (go_at_call 45; (with_reducible refine (slices_isNaN_string.calls (rdOf ByteArray.empty l0 x7_1) true _ A13.out).mono ?_); rintro e w' ⟨rfl, ⟨nd, rfl⟩⟩) | (go_at_call 45; (with_reducible refine (slices_isNaN_string.calls a1 t193 _ A15.out).mono ?_); rintro e w' ⟨rfl, ⟨nd, rfl⟩⟩))
 go_wp2
 repeat (go_quiet (fail); try go_wp2)
 go_ret2
 exact ⟨by first | rfl | (simp; done) | (simp [*]; done), by repeat (first | exact Drawn0.refl _ | apply Drawn0.step)⟩
def cmp_isNaN_int.f (a0 : Int) : Option (Bool) := some (a0 != a0)
set_option maxHeartbeats 8000000 in
set_option maxRecDepth 100000 in
theorem cmp_isNaN_int.calls (a0 : Int) (r : Bool) (w : World) (h : cmp_isNaN_int.f a0 = some r) :
 Calls Try.prog 62 #[.int .i64 a0] w fun e w' => e = .returned (.bool r) ∧ Drawn0 w w' := by
 have H : (some (a0 != a0)) = some r := h
 clear h
 obtain rfl := Option.some.inj H
 go_enter Try.func62, Try.ntmps62
 go_wp2
 go_wp2
 repeat (go_quiet (fail); try go_wp2)
 go_ret
 exact ⟨by first | rfl | (simp; done) | (simp [*]; done), by repeat (first | exact Drawn0.refl _ | apply Drawn0.step)⟩
def cmp_Compare_int.f (a0 : Int) (a1 : Int) : Option (Int) := (cmp_isNaN_int.f a0).bind fun t194 => ((cmp_isNaN_int.f a1).bind fun t195 => (if t194 = true then (if t195 = true then (some 0) else (some (-1))) else (if t195 = true then (some 1) else (if a0 < a1 then (some (-1)) else (if a0 > a1 then (some 1) else (some 0))))))
set_option maxHeartbeats 8000000 in
set_option maxRecDepth 100000 in
theorem cmp_Compare_int.calls (a0 : Int) (a1 : Int) (r : Int) (w : World) (h : cmp_Compare_int.f a0 a1 = some r) :
 Calls Try.prog 48 #[.int .i64 a0, .int .i64 a1] w fun e w' => e = .returned (.int .i64 r) ∧ Drawn0 w w' := by
 have H : ((cmp_isNaN_int.f a0).bind fun t194 => ((cmp_isNaN_int.f a1).bind fun t195 => (if t194 = true then (if t195 = true then (some 0) else (some (-1))) else (if t195 = true then (some 1) else (if a0 < a1 then (some (-1)) else (if a0 > a1 then (some 1) else (some 0))))))) = some r := h
 clear h
 replace H := Option.bind_eq_some_iff.mp H
 obtain ⟨t194, A30, H⟩ := H
 have A3 := Aside0.mk A30
 clear A30
 replace H := Option.bind_eq_some_iff.mp H
 obtain ⟨t195, A40, H⟩ := H
 have A4 := Aside0.mk A40
 clear A40
 by_cases c5 : t194 = true
 case pos =>
  subst c5
  rw [if_pos rfl] at H
  by_cases c6 : t195 = true
  case pos =>
   subst c6
   rw [if_pos rfl] at H
   obtain rfl := Option.some.inj H
   go_enter Try.func48, Try.ntmps48
   go_wp2_with (first | ((with_reducible refine gate_callee (f := 62) rfl ?_); refine goesL_ (some 8) rfl rfl Try.func62 (by kernel_rfl) rfl #[.int .i64 a0] rfl (by (try simp only [List.map_toArray, List.map_cons, List.map_nil]); first | done | rfl | (simp only [List.length_drop, List.length_take]; rfl)) ?_; (with_reducible refine (cmp_isNaN_int.calls a0 true _ A3.out).mono ?_); rintro e w' ⟨rfl, ⟨nd, rfl⟩⟩; refine ⟨_, rfl, ?_⟩) | ((with_reducible refine gate_callee (f := 62) rfl ?_); refine goesL_ (some 10) rfl rfl Try.func62 (by kernel_rfl) rfl #[.int .i64 a1] rfl (by (try simp only [List.map_toArray, List.map_cons, List.map_nil]); first | done | rfl | (simp only [List.length_drop, List.length_take]; rfl)) ?_; (with_reducible refine (cmp_isNaN_int.calls a1 true _ A4.out).mono ?_); rintro e w' ⟨rfl, ⟨nd, rfl⟩⟩; refine ⟨_, rfl, ?_⟩))
   go_wp2
   repeat (go_quiet (fail); try go_wp2)
   go_ret
   exact ⟨by first | rfl | (simp; done) | (simp [*]; done), by repeat (first | exact Drawn0.refl _ | apply Drawn0.step)⟩
  replace c6 := Bool.eq_false_iff.mpr c6
  subst c6
  rw [if_neg (show ¬ (false = true) by decide)] at H
  obtain rfl := Option.some.inj H
  go_enter Try.func48, Try.ntmps48
  go_wp2_with (first | ((with_reducible refine gate_callee (f := 62) rfl ?_); refine goesL_ (some 8) rfl rfl Try.func62 (by kernel_rfl) rfl #[.int .i64 a0] rfl (by (try simp only [List.map_toArray, List.map_cons, List.map_nil]); first | done | rfl | (simp only [List.length_drop, List.length_take]; rfl)) ?_; (with_reducible refine (cmp_isNaN_int.calls a0 true _ A3.out).mono ?_); rintro e w' ⟨rfl, ⟨nd, rfl⟩⟩; refine ⟨_, rfl, ?_⟩) | ((with_reducible refine gate_callee (f := 62) rfl ?_); refine goesL_ (some 10) rfl rfl Try.func62 (by kernel_rfl) rfl #[.int .i64 a1] rfl (by (try simp only [List.map_toArray, List.map_cons, List.map_nil]); first | done | rfl | (simp only [List.length_drop, List.length_take]; rfl)) ?_; (with_reducible refine (cmp_isNaN_int.calls a1 false _ A4.out).mono ?_); rintro e w' ⟨rfl, ⟨nd, rfl⟩⟩; refine ⟨_, rfl, ?_⟩))
  go_wp2
  repeat (go_quiet (fail); try go_wp2)
  go_ret
  exact ⟨by first | rfl | (simp; done) | (simp [*]; done), by repeat (first | exact Drawn0.refl _ | apply Drawn0.step)⟩
 replace c5 := Bool.eq_false_iff.mpr c5
 subst c5
 rw [if_neg (show ¬ (false = true) by decide)] at H
 by_cases c7 : t195 = true
 case pos =>
  subst c7
  rw [if_pos rfl] at H
  obtain rfl := Option.some.inj H
  go_enter Try.func48, Try.ntmps48
  go_wp2_with (first | ((with_reducible refine gate_callee (f := 62) rfl ?_); refine goesL_ (some 8) rfl rfl Try.func62 (by kernel_rfl) rfl #[.int .i64 a0] rfl (by (try simp only [List.map_toArray, List.map_cons, List.map_nil]); first | done | rfl | (simp only [List.length_drop, List.length_take]; rfl)) ?_; (with_reducible refine (cmp_isNaN_int.calls a0 false _ A3.out).mono ?_); rintro e w' ⟨rfl, ⟨nd, rfl⟩⟩; refine ⟨_, rfl, ?_⟩) | ((with_reducible refine gate_callee (f := 62) rfl ?_); refine goesL_ (some 10) rfl rfl Try.func62 (by kernel_rfl) rfl #[.int .i64 a1] rfl (by (try simp only [List.map_toArray, List.map_cons, List.map_nil]); first | done | rfl | (simp only [List.length_drop, List.length_take]; rfl)) ?_; (with_reducible refine (cmp_isNaN_int.calls a1 true _ A4.out).mono ?_); rintro e w' ⟨rfl, ⟨nd, rfl⟩⟩; refine ⟨_, rfl, ?_⟩))
  go_wp2
  repeat (go_quiet (fail); try go_wp2)
  go_ret
  exact ⟨by first | rfl | (simp; done) | (simp [*]; done), by repeat (first | exact Drawn0.refl _ | apply Drawn0.step)⟩
 replace c7 := Bool.eq_false_iff.mpr c7
 subst c7
 rw [if_neg (show ¬ (false = true) by decide)] at H
 by_cases c8 : a0 < a1
 case pos =>
  rw [if_pos c8] at H
  have c8b0 := decide_eq_true c8
  clear c8
  obtain rfl := Option.some.inj H
  go_enter Try.func48, Try.ntmps48
  go_wp2_with (first | ((with_reducible refine gate_callee (f := 62) rfl ?_); refine goesL_ (some 8) rfl rfl Try.func62 (by kernel_rfl) rfl #[.int .i64 a0] rfl (by (try simp only [List.map_toArray, List.map_cons, List.map_nil]); first | done | rfl | (simp only [List.length_drop, List.length_take]; rfl)) ?_; (with_reducible refine (cmp_isNaN_int.calls a0 false _ A3.out).mono ?_); rintro e w' ⟨rfl, ⟨nd, rfl⟩⟩; refine ⟨_, rfl, ?_⟩) | ((with_reducible refine gate_callee (f := 62) rfl ?_); refine goesL_ (some 10) rfl rfl Try.func62 (by kernel_rfl) rfl #[.int .i64 a1] rfl (by (try simp only [List.map_toArray, List.map_cons, List.map_nil]); first | done | rfl | (simp only [List.length_drop, List.length_take]; rfl)) ?_; (with_reducible refine (cmp_isNaN_int.calls a1 false _ A4.out).mono ?_); rintro e w' ⟨rfl, ⟨nd, rfl⟩⟩; refine ⟨_, rfl, ?_⟩))
  go_wp2
  repeat (go_quiet (fail); try go_wp2)
  go_ret
  exact ⟨by first | rfl | (simp; done) | (simp [*]; done), by repeat (first | exact Drawn0.refl _ | apply Drawn0.step)⟩
 rw [if_neg c8] at H
 have c8b0 := decide_eq_false c8
 clear c8
 by_cases c9 : a0 > a1
 case neg =>
  rw [if_neg c9] at H
  have c9b0 := decide_eq_false c9
  clear c9
  obtain rfl := Option.some.inj H
  go_enter Try.func48, Try.ntmps48
  go_wp2_with (first | ((with_reducible refine gate_callee (f := 62) rfl ?_); refine goesL_ (some 8) rfl rfl Try.func62 (by kernel_rfl) rfl #[.int .i64 a0] rfl (by (try simp only [List.map_toArray, List.map_cons, List.map_nil]); first | done | rfl | (simp only [List.length_drop, List.length_take]; rfl)) ?_; (with_reducible refine (cmp_isNaN_int.calls a0 false _ A3.out).mono ?_); rintro e w' ⟨rfl, ⟨nd, rfl⟩⟩; refine ⟨_, rfl, ?_⟩) | ((with_reducible refine gate_callee (f := 62) rfl ?_); refine goesL_ (some 10) rfl rfl Try.func62 (by kernel_rfl) rfl #[.int .i64 a1] rfl (by (try simp only [List.map_toArray, List.map_cons, List.map_nil]); first | done | rfl | (simp only [List.length_drop, List.length_take]; rfl)) ?_; (with_reducible refine (cmp_isNaN_int.calls a1 false _ A4.out).mono ?_); rintro e w' ⟨rfl, ⟨nd, rfl⟩⟩; refine ⟨_, rfl, ?_⟩))
  go_wp2
  repeat (go_quiet (fail); try go_wp2)
  go_ret
  exact ⟨by first | rfl | (simp; done) | (simp [*]; done), by repeat (first | exact Drawn0.refl _ | apply Drawn0.step)⟩
 rw [if_pos c9] at H
 have c9b0 := decide_eq_true c9
 clear c9
 obtain rfl := Option.some.inj H
 go_enter Try.func48, Try.ntmps48
 go_wp2_with (first | ((with_reducible refine gate_callee (f := 62) rfl ?_); refine goesL_ (some 8) rfl rfl Try.func62 (by kernel_rfl) rfl #[.int .i64 a0] rfl (by (try simp only [List.map_toArray, List.map_cons, List.map_nil]); first | done | rfl | (simp only [List.length_drop, List.length_take]; rfl)) ?_; (with_reducible refine (cmp_isNaN_int.calls a0 false _ A3.out).mono ?_); rintro e w' ⟨rfl, ⟨nd, rfl⟩⟩; refine ⟨_, rfl, ?_⟩) | ((with_reducible refine gate_callee (f := 62) rfl ?_); refine goesL_ (some 10) rfl rfl Try.func62 (by kernel_rfl) rfl #[.int .i64 a1] rfl (by (try simp only [List.map_toArray, List.map_cons, List.map_nil]); first | done | rfl | (simp only [List.length_drop, List.length_take]; rfl)) ?_; (with_reducible refine (cmp_isNaN_int.calls a1 false _ A4.out).mono ?_); rintro e w' ⟨rfl, ⟨nd, rfl⟩⟩; refine ⟨_, rfl, ?_⟩))
 go_wp2
 repeat (go_quiet (fail); try go_wp2)
 go_ret
 exact ⟨by first | rfl | (simp; done) | (simp [*]; done), by repeat (first | exact Drawn0.refl _ | apply Drawn0.step)⟩
end Go.Proofs.Ytfkilcegdajdcaa.PZ
