
/- Printed by a turned copy of the printer (wip/mkprint.py): Go functions as Lean functions, with a proof of each. -/
import Derived.Test.YtfkilcegdajdcaaPZx0
import Derived.Test.YtfkilcegdajdcaaPZx1
import Derived.Test.YtfkilcegdajdcaaGFree
import Derived.Test.YtfkilcegdajdcaaGSeen
namespace Go.Proofs.Ytfkilcegdajdcaa.PZ
open Go.RowKit Go.Proofs.YtfkilcegdajdcaaW.PrintWords Go.Proofs.YtfkilcegdajdcaaW.PrintLast Go.Proofs.YtfkilcegdajdcaaW.PrintMore
attribute [local go_sem] max2_int min2_int max_two min_two max_three min_three max_four min_four   -- for this text's walks alone
set_option linter.unusedVariables false
set_option linter.unusedSimpArgs false
mutual
def comps_Comps.l0 : Nat → Int → List (List Int) → Int → Int → List (List Int) → List Int → Option (List Int)
  | 0, _, _, _, _, _, _ => none
  | k + 1, x0, x6, x34, x35, x142000, x146000 => if x35 < x34 then (if 0 ≤ x35 then (if x35 < (x146000.length : Int) then (comps_Comps.l0 k x0 x6 x34 (wrap64 (x35 + 1)) x142000 (x146000.set (x35 : Int).toNat (-1))) else (none)) else (none)) else (comps_Comps.l1 k x0 x6 x0 0 x142000 x146000 ([] : List (List Int)))
def comps_Comps.l1 : Nat → Int → List (List Int) → Int → Int → List (List Int) → List Int → List (List Int) → Option (List Int)
  | 0, _, _, _, _, _, _, _ => none
  | k + 1, x0, x6, x42, x43, x142000, x146000, x148000 => if x43 < x42 then (if 0 ≤ x43 then (if x43 < (x146000.length : Int) then (if (rd x146000 x43) ≥ 0 then (comps_Comps.l1 k x0 x6 x42 (wrap64 (x43 + 1)) x142000 x146000 x148000) else ((comps_seen.f k x142000 x43).bind fun t149 => ((comps_seen.f k x6 x43).bind fun t152 => (comps_Comps.l2 k x0 x6 ([] : List Int) t149 t152 x42 x43 x0 0 x142000 x146000 x148000)))) else (none)) else (none)) else (if 0 ≤ (x148000.length : Int) then (if ((x148000.length : Int) : Int).toNat ≤ 35184372088832 then ((some (List.replicate ((x148000.length : Int) : Int).toNat 0 : List Int)).bind fun y164 => (comps_Comps.l3 k x0 (y164.length : Int) 0 x142000 x146000 x148000 y164)) else (none)) else (none))
def comps_Comps.l2 : Nat → Int → List (List Int) → List Int → List Bool → List Bool → Int → Int → Int → Int → List (List Int) → List Int → List (List Int) → Option (List Int)
  | 0, _, _, _, _, _, _, _, _, _, _, _, _ => none
  | k + 1, x0, x6, x11, x12, x13, x42, x43, x57, x58, x142000, x146000, x148000 => if x58 < x57 then (if 0 ≤ x58 then (if x58 < (x12.length : Int) then (if rdOf false x12 x58 = true then (if x58 < (x13.length : Int) then (if rdOf false x13 x58 = true then (if x58 < (x146000.length : Int) then (if x11.length < 17592186044416 then (comps_Comps.l2 k x0 x6 (x11 ++ [x58]) x12 x13 x42 x43 x57 (wrap64 (x58 + 1)) x142000 (x146000.set (x58 : Int).toNat (x148000.length : Int)) x148000) else (none)) else (none)) else (comps_Comps.l2 k x0 x6 x11 x12 x13 x42 x43 x57 (wrap64 (x58 + 1)) x142000 x146000 x148000)) else (none)) else (comps_Comps.l2 k x0 x6 x11 x12 x13 x42 x43 x57 (wrap64 (x58 + 1)) x142000 x146000 x148000)) else (none)) else (none)) else (if x148000.length < 5864062014805 then (comps_Comps.l1 k x0 x6 x42 (wrap64 (x43 + 1)) x142000 x146000 (x148000 ++ [x11])) else (none))
def comps_Comps.l3 : Nat → Int → Int → Int → List (List Int) → List Int → List (List Int) → List Int → Option (List Int)
  | 0, _, _, _, _, _, _, _ => none
  | k + 1, x0, x90, x91, x142000, x146000, x148000, x168000 => if x91 < x90 then (if 0 ≤ x91 then (if x91 < (x168000.length : Int) then (comps_Comps.l3 k x0 x90 (wrap64 (x91 + 1)) x142000 x146000 x148000 (x168000.set (x91 : Int).toNat (-1))) else (none)) else (none)) else (comps_Comps.l4 k x0 (x148000.length : Int) 0 x142000 x146000 x148000 x168000)
def comps_Comps.l4 : Nat → Int → Int → Int → List (List Int) → List Int → List (List Int) → List Int → Option (List Int)
  | 0, _, _, _, _, _, _, _ => none
  | k + 1, x0, x100, x101, x142000, x146000, x148000, x168000 => if x101 < x100 then (comps_Comps.l5 k x0 x101 x100 x101 (x148000.length : Int) 0 x142000 x146000 x148000 x168000) else (if 0 ≤ x0 then (if (x0 : Int).toNat ≤ 35184372088832 then (comps_Comps.l6 k (List.replicate (x0 : Int).toNat 0) x146000 (x146000.length : Int) 0 x168000) else (none)) else (none))
def comps_Comps.l5 : Nat → Int → Int → Int → Int → Int → Int → List (List Int) → List Int → List (List Int) → List Int → Option (List Int)
  | 0, _, _, _, _, _, _, _, _, _, _ => none
  | k + 1, x0, x18, x100, x101, x105, x106, x142000, x146000, x148000, x168000 => if x106 < x105 then ((comps_free.f x106 x168000 x148000 x142000 x146000).bind fun t169 => (if t169 = true then (if 0 ≤ x106 then (if x106 < (x168000.length : Int) then (comps_Comps.l4 k x0 x100 (wrap64 (x101 + 1)) x142000 x146000 x148000 (x168000.set (x106 : Int).toNat x18)) else (none)) else (none)) else (comps_Comps.l5 k x0 x18 x100 x101 x105 (wrap64 (x106 + 1)) x142000 x146000 x148000 x168000))) else (comps_Comps.l4 k x0 x100 (wrap64 (x101 + 1)) x142000 x146000 x148000 x168000)
def comps_Comps.l6 : Nat → List Int → List Int → Int → Int → List Int → Option (List Int)
  | 0, _, _, _, _, _ => none
  | k + 1, x20, x120, x121, x122, x168000 => if x122 < x121 then (if 0 ≤ x122 then (if x122 < (x120.length : Int) then (if 0 ≤ (rd x120 x122) then (if (rd x120 x122) < (x168000.length : Int) then (if x122 < (x20.length : Int) then (comps_Comps.l6 k (x20.set (x122 : Int).toNat (rd x168000 (rd x120 x122))) x120 x121 (wrap64 (x122 + 1)) x168000) else (none)) else (none)) else (none)) else (none)) else (none)) else (some x20)
end
def comps_Comps.f (k : Nat) (a0 : Int) (l1 : List (S53)) : Option (List Int) := (comps_held.f a0).bind fun t134 => ((comps_lists.f k t134 l1 false).bind fun t135 => ((comps_lists.f k t134 l1 true).bind fun t138 => (if 0 ≤ t134 then (if (t134 : Int).toNat ≤ 35184372088832 then ((some (List.replicate (t134 : Int).toNat 0 : List Int)).bind fun y142 => (comps_Comps.l0 k t134 t138 (y142.length : Int) 0 t135 y142)) else (none)) else (none))))
theorem comps_Comps.mono_l : ∀ k, (∀ y0 y1 y2 y3 y4 y5, LeO (comps_Comps.l0 k y0 y1 y2 y3 y4 y5) (comps_Comps.l0 (k + 1) y0 y1 y2 y3 y4 y5)) ∧ (∀ y0 y1 y2 y3 y4 y5 y6, LeO (comps_Comps.l1 k y0 y1 y2 y3 y4 y5 y6) (comps_Comps.l1 (k + 1) y0 y1 y2 y3 y4 y5 y6)) ∧ (∀ y0 y1 y2 y3 y4 y5 y6 y7 y8 y9 y10 y11, LeO (comps_Comps.l2 k y0 y1 y2 y3 y4 y5 y6 y7 y8 y9 y10 y11) (comps_Comps.l2 (k + 1) y0 y1 y2 y3 y4 y5 y6 y7 y8 y9 y10 y11)) ∧ (∀ y0 y1 y2 y3 y4 y5 y6, LeO (comps_Comps.l3 k y0 y1 y2 y3 y4 y5 y6) (comps_Comps.l3 (k + 1) y0 y1 y2 y3 y4 y5 y6)) ∧ (∀ y0 y1 y2 y3 y4 y5 y6, LeO (comps_Comps.l4 k y0 y1 y2 y3 y4 y5 y6) (comps_Comps.l4 (k + 1) y0 y1 y2 y3 y4 y5 y6)) ∧ (∀ y0 y1 y2 y3 y4 y5 y6 y7 y8 y9, LeO (comps_Comps.l5 k y0 y1 y2 y3 y4 y5 y6 y7 y8 y9) (comps_Comps.l5 (k + 1) y0 y1 y2 y3 y4 y5 y6 y7 y8 y9)) ∧ (∀ y0 y1 y2 y3 y4, LeO (comps_Comps.l6 k y0 y1 y2 y3 y4) (comps_Comps.l6 (k + 1) y0 y1 y2 y3 y4))
  | 0 => ⟨fun _ _ _ _ _ _ r h => by simp [comps_Comps.l0] at h, fun _ _ _ _ _ _ _ r h => by simp [comps_Comps.l1] at h, fun _ _ _ _ _ _ _ _ _ _ _ _ r h => by simp [comps_Comps.l2] at h, fun _ _ _ _ _ _ _ r h => by simp [comps_Comps.l3] at h, fun _ _ _ _ _ _ _ r h => by simp [comps_Comps.l4] at h, fun _ _ _ _ _ _ _ _ _ _ r h => by simp [comps_Comps.l5] at h, fun _ _ _ _ _ r h => by simp [comps_Comps.l6] at h⟩
  | k + 1 => by
    obtain ⟨ih0, ih1, ih2, ih3, ih4, ih5, ih6⟩ := comps_Comps.mono_l k
    refine ⟨?_, ?_, ?_, ?_, ?_, ?_, ?_⟩
    all_goals
      intros
      first | unfold comps_Comps.l0 | unfold comps_Comps.l1 | unfold comps_Comps.l2 | unfold comps_Comps.l3 | unfold comps_Comps.l4 | unfold comps_Comps.l5 | unfold comps_Comps.l6
      repeat' first
      | (with_reducible exact ih0 _ _ _ _ _ _)
      | (with_reducible exact ih1 _ _ _ _ _ _ _)
      | (with_reducible exact ih2 _ _ _ _ _ _ _ _ _ _ _ _)
      | (with_reducible exact ih3 _ _ _ _ _ _ _)
      | (with_reducible exact ih4 _ _ _ _ _ _ _)
      | (with_reducible exact ih5 _ _ _ _ _ _ _ _ _ _)
      | (with_reducible exact ih6 _ _ _ _ _)
      | (with_reducible exact comps_lists.mono _ _ _ _)
      | (with_reducible exact comps_seen.mono _ _ _)
      | (with_reducible exact LeO.refl _)
      | (with_reducible exact LeO.none _)
      | (with_reducible refine LeO.ite ?_ ?_)
      | (with_reducible refine LeO.bind ?_ (fun _ => ?_))
theorem comps_Comps.mono : ∀ a0 a1 k, LeO (comps_Comps.f k a0 a1) (comps_Comps.f (k + 1) a0 a1) := by
 intro a0 a1 k
 obtain ⟨ih0, ih1, ih2, ih3, ih4, ih5, ih6⟩ := comps_Comps.mono_l k
 unfold comps_Comps.f
 repeat' first
  | (with_reducible exact ih0 _ _ _ _ _ _)
  | (with_reducible exact ih1 _ _ _ _ _ _ _)
  | (with_reducible exact ih2 _ _ _ _ _ _ _ _ _ _ _ _)
  | (with_reducible exact ih3 _ _ _ _ _ _ _)
  | (with_reducible exact ih4 _ _ _ _ _ _ _)
  | (with_reducible exact ih5 _ _ _ _ _ _ _ _ _ _)
  | (with_reducible exact ih6 _ _ _ _ _)
  | (with_reducible exact comps_lists.mono _ _ _ _)
  | (with_reducible exact comps_seen.mono _ _ _)
  | (with_reducible exact LeO.refl _)
  | (with_reducible exact LeO.none _)
  | (with_reducible refine LeO.ite ?_ ?_)
  | (with_reducible refine LeO.bind ?_ (fun _ => ?_))
set_option maxHeartbeats 8000000 in
set_option maxRecDepth 100000 in
theorem comps_Comps.calls (k : Nat) (a0 : Int) (A1 : Option Addr) (c1 : Nat) (l1 : List (S53)) (r : List Int) (w : World) (hr1 : Kd.C k53 w A1 l1.length l1) (hc1 : l1.length ≤ c1) (h : comps_Comps.f k a0 l1 = some r) :
 Calls Try.prog 19 #[.int .i64 a0, .slice A1 l1.length c1] w fun e w' => ∃ v0_ : Value, e = .returned (v0_) ∧ Kd.R (Kd.int .i64) 3 w' w.heap.size (fun _ => True) v0_ r ∧ Below w.heap.size w w' := by
 have HR1 := Aside0.mk hr1
 have HC1 := Aside0.mk hc1
 clear hr1 hc1
 have HB := Aside0.mk (Below.refl w.heap.size w)
 have H : ((comps_held.f a0).bind fun t134 => ((comps_lists.f k t134 l1 false).bind fun t135 => ((comps_lists.f k t134 l1 true).bind fun t138 => (if 0 ≤ t134 then (if (t134 : Int).toNat ≤ 35184372088832 then ((some (List.replicate (t134 : Int).toNat 0 : List Int)).bind fun y142 => (comps_Comps.l0 k t134 t138 (y142.length : Int) 0 t135 y142)) else (none)) else (none))))) = some r := h
 clear h
 replace H := Option.bind_eq_some_iff.mp H
 obtain ⟨t134, A30, H⟩ := H
 have A3 := Aside0.mk A30
 clear A30
 replace H := Option.bind_eq_some_iff.mp H
 obtain ⟨t135, A40, H⟩ := H
 have A4 := Aside0.mk A40
 clear A40
 replace H := Option.bind_eq_some_iff.mp H
 obtain ⟨t138, A50, H⟩ := H
 have A5 := Aside0.mk A50
 clear A50
 by_cases c6 : 0 ≤ t134
 case neg => rw [if_neg c6] at H; exact absurd H (by simp)
 rw [if_pos c6] at H
 have c6b0 := eq_true c6
 have c6b1 := decide_eq_true c6
 clear c6
 by_cases c7 : (t134 : Int).toNat ≤ 35184372088832
 case neg => rw [if_neg c7] at H; exact absurd H (by simp)
 rw [if_pos c7] at H
 have c7b0 := eq_true c7
 have c7b1 := decide_eq_true c7
 clear c7
 obtain ⟨y142, hy142⟩ : ∃ y_ : List Int, y_ = (List.replicate (t134 : Int).toNat 0) := ⟨_, rfl⟩
 replace H : (comps_Comps.l0 k t134 t138 (y142.length : Int) 0 t135 y142) = some r := by first | (rw [hy142]; with_reducible exact H) | (have H2_ := (Option.bind_some _ _).symm.trans H; rw [hy142]; with_reducible exact H2_) | (have H2_ := (Option.bind_some _ _).symm.trans H; with_reducible exact H2_) | with_reducible exact H | (rw [hy142]; exact H) | exact H
 have Ny142 := Aside0.mk hy142
 clear hy142
 have H' := Aside0.mk H
 clear H
 go_enter Try.func19, Try.ntmps19
 go_wp2_with (first | ((with_reducible refine gate_callee (f := 34) rfl ?_); refine goesL_ (some 24) rfl rfl Try.func34 (by kernel_rfl) rfl #[.int .i64 a0] rfl (by (try simp only [List.map_toArray, List.map_cons, List.map_nil]); first | done | rfl | (simp only [List.length_drop, List.length_take]; rfl)) ?_; (with_reducible refine (comps_held.calls a0 t134 _ A3.out).mono ?_); rintro e w8 ⟨rfl, hb⟩; refine ⟨_, rfl, ?_⟩; have n0_ := Aside0.mk (below_step (by repeat (first | (with_reducible first | exact HB.out | apply below_alloc | apply pw_below_drewN | apply below_drew1) | exact HB.out)) hb); clear HB; have HB := n0_; clear n0_; (try clear hb); (try clear hb2); (try clear hk); (try clear hi)) | ((with_reducible refine gate_callee (f := 35) rfl ?_); refine goesL_ (some 27) rfl rfl Try.func35 (by kernel_rfl) rfl #[.int .i64 t134, .slice A1 l1.length c1, .bool false] rfl (by (try simp only [List.map_toArray, List.map_cons, List.map_nil]); first | done | rfl | (simp only [List.length_drop, List.length_take]; rfl)) ?_; (with_reducible refine (comps_lists.calls k t134 _ _ l1 false t135 _ ?side1 ?side2 A4.out).mono ?_); (case side1 => repeat (first | exact (Kd.C_below HR1.out HB.out) | (with_reducible refine Kd.C_alloc ?_ _) | (with_reducible refine Kd.C_drewN ?_ _) | (with_reducible refine Kd.C_drew ?_))); (case side2 => exact HC1.out); rintro e w9 ⟨v136, rfl, ho0, hb⟩; refine ⟨_, rfl, ?_⟩; have n0_ := Aside0.mk (Kd.S_lower ho0 (below_size (by repeat (first | (with_reducible first | exact HB.out | apply below_alloc | apply pw_below_drewN | apply below_drew1) | exact HB.out)))); have n1_ := Aside0.mk (below_step (by repeat (first | (with_reducible first | exact HB.out | apply below_alloc | apply pw_below_drewN | apply below_drew1) | exact HB.out)) hb); clear HB; have HO137 := n0_; have HB := n1_; clear n0_ n1_; (try clear hb); (try clear hb2); (try clear hk); (try clear hi); (try clear ho0)) | ((with_reducible refine gate_callee (f := 35) rfl ?_); refine goesL_ (some 30) rfl rfl Try.func35 (by kernel_rfl) rfl #[.int .i64 t134, .slice A1 l1.length c1, .bool true] rfl (by (try simp only [List.map_toArray, List.map_cons, List.map_nil]); first | done | rfl | (simp only [List.length_drop, List.length_take]; rfl)) ?_; (with_reducible refine (comps_lists.calls k t134 _ _ l1 true t138 _ ?side1 ?side2 A5.out).mono ?_); (case side1 => repeat (first | exact (Kd.C_below HR1.out HB.out) | (with_reducible refine Kd.C_alloc ?_ _) | (with_reducible refine Kd.C_drewN ?_ _) | (with_reducible refine Kd.C_drew ?_))); (case side2 => exact HC1.out); rintro e w10 ⟨v139, rfl, ho0, hb⟩; refine ⟨_, rfl, ?_⟩; have n0_ := Aside0.mk (Kd.S_elder' (by (with_reducible repeat (first | apply Kd.S_alloc | apply Kd.S_drewN | apply Kd.S_drew)); exact HO137.out) (Kd.S_base ho0) hb); have n1_ := Aside0.mk (Kd.S_lower (Kd.S_new' ho0 (Kd.S_lt (by (with_reducible repeat (first | apply Kd.S_alloc | apply Kd.S_drewN | apply Kd.S_drew)); exact HO137.out))) (below_size (by repeat (first | (with_reducible first | exact HB.out | apply below_alloc | apply pw_below_drewN | apply below_drew1) | exact HB.out)))); have n2_ := Aside0.mk (below_step (by repeat (first | (with_reducible first | exact HB.out | apply below_alloc | apply pw_below_drewN | apply below_drew1) | exact HB.out)) hb); clear HO137; clear HB; have HO137 := n0_; have HO140 := n1_; have HB := n2_; clear n0_ n1_ n2_; (try clear hb); (try clear hb2); (try clear hk); (try clear hi); (try clear ho0)) | ((with_reducible refine gate_dst (N := 5) rfl ?_); refine box_event ?hg (N := 5) ?hd (cs := #[.slice none 0 0]) (t := 63) ?hr ?_; (case hd => rfl); (case hg => rfl); (case hr => first | (go_simp; done) | (go_simp; rfl)); intro gb141 hg w11 hbox hb; have n0_ := Aside0.mk (Kd.S_below (by (with_reducible repeat (first | apply Kd.S_alloc | apply Kd.S_drewN | apply Kd.S_drew)); exact HO137.out) hb); have n1_ := Aside0.mk (Kd.S_below (by (with_reducible repeat (first | apply Kd.S_alloc | apply Kd.S_drewN | apply Kd.S_drew)); exact HO140.out) hb); have n2_ := Aside0.mk (below_step (by repeat (first | (with_reducible first | exact HB.out | apply below_alloc | apply pw_below_drewN | apply below_drew1) | exact HB.out)) hb); have n3_ := Aside0.mk (hbox); have n4_ := Aside0.mk ((by rw [hg]; exact (below_size (by repeat (first | (with_reducible first | exact HB.out | apply below_alloc | apply pw_below_drewN | apply below_drew1) | exact HB.out))) : w.heap.size ≤ gb141)); have n5_ := Aside0.mk ((by rw [hg]; exact (below_size (by repeat (first | (with_reducible first | exact HB.out | apply below_alloc | apply pw_below_drewN | apply below_drew1) | exact HB.out))) : w.heap.size ≤ gb141)); clear HO137; clear HO140; clear HB; have HO137 := n0_; have HO140 := n1_; have HB := n2_; have BK141 := n3_; have GW141 := n4_; have GE141 := n5_; clear n0_ n1_ n2_ n3_ n4_ n5_; clear hb hbox hg; obtain ⟨Ao12, co12, eo12⟩ := Kd.S_slice HO137.out; subst eo12; have hcz13_0 : w11.cell? ⟨gb141, 0, none⟩ = some (.slice none 0 0) := (blk_cell BK141.out 0).trans rfl; have hfz13_0 := blk_frozen BK141.out 0) | ((with_reducible refine gate_dst (N := 32) rfl ?_); refine Kd.R_make (Kd.int .i64) _ 3 rfl (N := 32) rfl 56 _ _ rfl t134 rfl rfl Try.underlying56 (.int .i64 0) 8 info3 rfl (by decide) (by omega) 0 (ok := fun _ => True) (okp := fun _ => True) rfl (fun _ hk => hk) trivial (of_decide_eq_true (by with_reducible assumption)) (Nat.le_trans (Nat.mul_le_mul_right _ (of_decide_eq_true (by with_reducible assumption) : t134.toNat ≤ 35184372088832)) (by omega)) (Below.refl _ _) (Nat.le_refl _) ?_; intro v143 w14 ho15 hb hg_ hnew_; clear hg_ hnew_; (first | rw [← Ny142.out] at ho15 | (simp only [Int.reduceToNat] at ho15; rw [← Ny142.out] at ho15)); have n0_ := Aside0.mk (Kd.S_elder' (by (with_reducible repeat (first | apply Kd.S_alloc | apply Kd.S_drewN | apply Kd.S_drew)); exact (Kd.S_mono (Kd.S_far (p := ⟨gb141, 0, none⟩) (Kd.S_types HO137.out BK141.out (by decide)) (fun _ hk => hk.2) (.slice Ao12 t135.length co12)) (fun _ h_ => h_.1))) (Kd.R_base ho15) hb); have n1_ := Aside0.mk (Kd.S_elder' (by (with_reducible repeat (first | apply Kd.S_alloc | apply Kd.S_drewN | apply Kd.S_drew)); exact (Kd.S_mono (Kd.S_far (p := ⟨gb141, 0, none⟩) (Kd.S_types HO140.out BK141.out (by decide)) (fun _ hk => hk.2) (.slice Ao12 t135.length co12)) (fun _ h_ => h_.1))) (Kd.R_base ho15) hb); have n2_ := Aside0.mk (Kd.R_lower ho15 (below_size (by repeat (first | (with_reducible first | exact HB.out | apply below_alloc | apply pw_below_drewN | apply below_drew1 | refine below_set ?_ GE141.out) | exact HB.out)))); have n3_ := Aside0.mk (blk_below (g := gb141) (o := .cells #[.slice Ao12 t135.length co12] 63 (0, 0)) (by (with_reducible repeat (first | refine blk_drewN ?_ _ | refine blk_drew ?_ | refine blk_alloc ?_ _)); refine blk_put (cs := #[.slice none 0 0]) ?_ 0 _ rfl; (with_reducible repeat (first | refine blk_drewN ?_ _ | refine blk_drew ?_ | refine blk_alloc ?_ _)); exact BK141.out) hb); have n4_ := Aside0.mk (below_step (by repeat (first | (with_reducible first | exact HB.out | apply below_alloc | apply pw_below_drewN | apply below_drew1 | refine below_set ?_ GE141.out) | exact HB.out)) hb); clear HO137; clear HO140; clear BK141; clear HB; have HO137 := n0_; have HO140 := n1_; have HO144 := n2_; have BK141 := n3_; have HB := n4_; clear n0_ n1_ n2_ n3_ n4_; clear hb ho15) | ((with_reducible refine gate_dst (N := 7) rfl ?_); refine box_event ?hg (N := 7) ?hd (cs := #[.slice none 0 0]) (t := 56) ?hr ?_; (case hd => rfl); (case hg => rfl); (case hr => first | (go_simp; done) | (go_simp; rfl)); intro gb145 hg w16 hbox hb; have n0_ := Aside0.mk (Kd.S_below (Kd.S_elderB (by (with_reducible repeat (first | apply Kd.S_alloc | apply Kd.S_drewN | apply Kd.S_drew)); exact HO137.out) gb145 (Nat.le_of_eq hg.symm)) hb); have n1_ := Aside0.mk (Kd.S_below (Kd.S_elderB (by (with_reducible repeat (first | apply Kd.S_alloc | apply Kd.S_drewN | apply Kd.S_drew)); exact HO140.out) gb145 (Nat.le_of_eq hg.symm)) hb); have n2_ := Aside0.mk (Kd.R_below (by (with_reducible repeat (first | apply Kd.R_alloc | apply Kd.R_drewN | apply Kd.R_drew)); exact HO144.out) hb); have n3_ := Aside0.mk (blk_below (g := gb141) (o := .cells #[.slice Ao12 t135.length co12] 63 (0, 0)) (by (with_reducible repeat (first | refine blk_drewN ?_ _ | refine blk_drew ?_ | refine blk_alloc ?_ _)); exact BK141.out) hb); have n4_ := Aside0.mk (below_step (by repeat (first | (with_reducible first | exact HB.out | apply below_alloc | apply pw_below_drewN | apply below_drew1 | refine below_set ?_ GE141.out) | exact HB.out)) hb); have n5_ := Aside0.mk (hbox); have n6_ := Aside0.mk ((by rw [hg]; exact (below_size (by repeat (first | (with_reducible first | exact HB.out | apply below_alloc | apply pw_below_drewN | apply below_drew1 | refine below_set ?_ GE141.out) | exact HB.out))) : w.heap.size ≤ gb145)); have n7_ := Aside0.mk ((by rw [hg]; exact (below_size (by repeat (first | (with_reducible first | exact HB.out | apply below_alloc | apply pw_below_drewN | apply below_drew1 | refine below_set ?_ GE141.out) | exact HB.out))) : w.heap.size ≤ gb145)); have n8_ := Aside0.mk ((by rw [hg]; exact Nat.ne_of_lt (blk_lt (g := gb141) (o := .cells #[.slice Ao12 t135.length co12] 63 (0, 0)) (by (with_reducible repeat (first | refine blk_drewN ?_ _ | refine blk_drew ?_ | refine blk_alloc ?_ _)); exact BK141.out)) : gb141 ≠ gb145)); have n9_ := Aside0.mk ((by rw [hg]; exact Nat.ne_of_gt (blk_lt (g := gb141) (o := .cells #[.slice Ao12 t135.length co12] 63 (0, 0)) (by (with_reducible repeat (first | refine blk_drewN ?_ _ | refine blk_drew ?_ | refine blk_alloc ?_ _)); exact BK141.out)) : gb145 ≠ gb141)); clear HO137; clear HO140; clear HO144; clear BK141; clear HB; have HO137 := n0_; have HO140 := n1_; have HO144 := n2_; have BK141 := n3_; have HB := n4_; have BK145 := n5_; have GW145 := n6_; have GE145 := n7_; have NB141_145 := n8_; have NB145_141 := n9_; clear n0_ n1_ n2_ n3_ n4_ n5_ n6_ n7_ n8_ n9_; clear hb hbox hg; obtain ⟨Ao17, co17, eo17⟩ := Kd.R_slice HO144.out; subst eo17; have hnb18 := NB145_141.out; have hnc18 := NB141_145.out; have hcz19_0 : w16.cell? ⟨gb145, 0, none⟩ = some (.slice none 0 0) := (blk_cell BK145.out 0).trans rfl; have hfz19_0 := blk_frozen BK145.out 0))
 repeat (go_step3; try go_wp2_with (fail))
 (try (simp only [Exit.noGoto_normal, Exit.noGoto_exit, Exit.noGoto_ret]; try go_wp2_with (fail)))
 go_loopg [35] k (fun kq v35 w' => ∃ (x35_1 : Int) (x146000_1 : List Int) (u146000 : Value), v35 = .int .i64 x35_1 ∧ Aside0 (comps_Comps.l0 kq t134 t138 (y142.length : Int) x35_1 t135 x146000_1 = some r) ∧ Aside0 (kq ≤ k) ∧ Aside0 (Kd.S (Kd.slice 3 (Kd.int .i64)) 56 w' w.heap.size (fun k_ => some k_ ≠ ((.slice Ao12 t135.length co12) : Value).ownBlock ∧ some k_ ≠ (u146000 : Value).ownBlock ∧ k_ ≠ gb145) v139 t138) ∧ Aside0 (Kd.S (Kd.slice 3 (Kd.int .i64)) 56 w' w.heap.size (fun k_ => some k_ ≠ (v139 : Value).ownBlock ∧ some k_ ≠ (u146000 : Value).ownBlock ∧ k_ ≠ gb145) (.slice Ao12 t135.length co12) t135) ∧ Aside0 (Kd.R (Kd.int .i64) 3 w' w.heap.size (fun _ => True) u146000 x146000_1) ∧ Aside0 (w'.heap[gb141]? = some (.cells #[(.slice Ao12 t135.length co12)] 63 (0, 0))) ∧ Aside0 (w'.heap[gb145]? = some (.cells #[u146000] 56 (0, 0))) ∧ Aside0 (Below w.heap.size w w'))
 case atStart => exact ⟨(0), (y142), (.slice Ao17 y142.length co17), (by first | rfl | (simp; done) | (simp [*]; done)), H', ⟨Nat.le_refl _⟩, ⟨by (with_reducible repeat (first | apply Kd.S_alloc | apply Kd.S_drewN | apply Kd.S_drew)); exact Kd.S_mono (Kd.S_far (p := ⟨gb145, 0, none⟩) (Kd.S_mono HO140.out (fun k_ hk => (⟨hk, hk.2⟩ : _ ∧ k_ ≠ gb145))) (fun _ hk => hk.2) (.slice Ao17 y142.length co17)) (fun _ hk => ⟨hk.1.1.1.2, ⟨hk.1.1.2, hk.1.2⟩⟩)⟩, ⟨by (with_reducible repeat (first | apply Kd.S_alloc | apply Kd.S_drewN | apply Kd.S_drew)); exact Kd.S_mono (Kd.S_far (p := ⟨gb145, 0, none⟩) (Kd.S_mono HO137.out (fun k_ hk => (⟨hk, hk.2⟩ : _ ∧ k_ ≠ gb145))) (fun _ hk => hk.2) (.slice Ao17 y142.length co17)) (fun _ hk => ⟨hk.1.1.1.2, ⟨hk.1.1.2, hk.1.2⟩⟩)⟩, ⟨by (with_reducible repeat (first | apply Kd.R_alloc | apply Kd.R_drewN | apply Kd.R_drew)); exact Kd.R_mono (Kd.R_far (p := ⟨gb145, 0, none⟩) (Kd.R_types HO144.out BK145.out (by decide)) (fun _ hk => hk.2) (.slice Ao17 y142.length co17)) (fun _ hk => trivial)⟩, ⟨by (with_reducible repeat (first | refine blk_drewN ?_ _ | refine blk_drew ?_ | refine blk_alloc ?_ _)); refine blk_far ?_ NB141_145.out _; (with_reducible repeat (first | refine blk_drewN ?_ _ | refine blk_drew ?_ | refine blk_alloc ?_ _)); exact BK141.out⟩, ⟨by (with_reducible repeat (first | refine blk_drewN ?_ _ | refine blk_drew ?_ | refine blk_alloc ?_ _)); refine blk_put (cs := #[.slice none 0 0]) ?_ 0 _ rfl; (with_reducible repeat (first | refine blk_drewN ?_ _ | refine blk_drew ?_ | refine blk_alloc ?_ _)); exact BK145.out⟩, ⟨by repeat (first | (with_reducible first | exact HB.out | apply below_alloc | apply pw_below_drewN | apply below_drew1 | refine below_set ?_ GE141.out | refine below_set ?_ GE145.out) | exact HB.out)⟩⟩
 clear H'
 try clear c1
 try clear p2
 try clear c3
 try clear p3
 try clear c6
 try clear c6b0
 try clear c6b1
 try clear c7
 try clear c7b0
 try clear c7b1
 try clear c18
 try clear c19
 try clear hcz13_0
 try clear hcz19_0
 try clear hfz13_0
 try clear hfz19_0
 obtain ⟨x35_1, x146000_1, u146000, rfl, HA, HK1, HO_6, HO_142000, HO_146000, BK141, BK145, HB⟩ := hrel
 obtain _ | k1 := gk
 · exact absurd HA.out (by simp [comps_Comps.l0])
 have H := HA.out
 clear HA
 simp only [comps_Comps.l0] at H
 by_cases c20 : x35_1 < (y142.length : Int)
 case pos =>
  rw [if_pos c20] at H
  have c20b0 := decide_eq_true c20
  clear c20
  by_cases c21 : 0 ≤ x35_1
  case neg => rw [if_neg c21] at H; exact absurd H (by simp)
  rw [if_pos c21] at H
  have c21b0 := decide_eq_true c21
  clear c21
  by_cases c22 : x35_1 < (x146000_1.length : Int)
  case neg => rw [if_neg c22] at H; exact absurd H (by simp)
  rw [if_pos c22] at H
  have c22b0 := decide_eq_true c22
  clear c22
  obtain ⟨y146, hy146⟩ : ∃ y_ : List Int, y_ = (x146000_1.set (x35_1 : Int).toNat (-1)) := ⟨_, rfl⟩
  replace H : (comps_Comps.l0 k1 t134 t138 (y142.length : Int) (wrap64 (x35_1 + 1)) t135 y146) = some r := by first | (rw [hy146]; with_reducible exact H) | (have H2_ := (Option.bind_some _ _).symm.trans H; rw [hy146]; with_reducible exact H2_) | (have H2_ := (Option.bind_some _ _).symm.trans H; with_reducible exact H2_) | with_reducible exact H | (rw [hy146]; exact H) | exact H
  have Ny146 := Aside0.mk hy146
  clear hy146
  have H' := Aside0.mk H
  clear H
  have hnb24 := NB145_141.out
  have hnc24 := NB141_145.out
  have hcz25_0 : wr.cell? ⟨gb145, 0, none⟩ = some (u146000) := (blk_cell BK145.out 0).trans rfl
  have hfz25_0 := blk_frozen BK145.out 0
  have p23 : 0 ≤ (x35_1 : Int) := of_decide_eq_true (by with_reducible assumption)
  have q23 : (x35_1 : Int) < ((x146000_1.length : Int) : Int) := of_decide_eq_true (by with_reducible assumption)
  obtain ⟨go23, co23, eo23, gb23, gl23, cl23, HG23⟩ := Kd.R_form HO_146000.out (by omega)
  (first | cases eo23 | (injection eo23 with ea_ en_ ec_; (first | subst ea_ | (injection ea_ with ea_; subst ea_)); subst ec_; clear en_))
  have GB23 := Aside0.mk gb23
  have GG23 := Aside0.mk HG23
  clear gb23 gl23 HG23
  obtain ⟨hx23_0, hf23_0⟩ := Kd.R_celln 0 HO_146000.out (x35_1 : Int) p23 q23
  replace p23 := eq_true p23
  replace q23 := eq_true q23
  have HP26 := Kd.R_putg HO_146000.out (x35_1 : Int) (-1)
  go_wp2_with (first | ((with_reducible refine gate_store (t := 3) (p := 40) rfl ?_); refine store_event (t := 3) (p := 40) (v := ?vo_w27) (w1 := (wr.setCell ⟨go23, (x35_1 : Int).toNat, none⟩ (.int .i64 (-1)))) ?hg ?ho ?hn ?hr ?_; (case ho => rfl); (case hg => rfl); (case hn => rfl); (case hr => first | (go_simp; done) | (go_simp; rfl)); intro w27 hw; have hg : wr.grownBy w27 (some go23) := (by rw [hw]; exact HP26.2); have hp_ : Kd.R (Kd.int .i64) 3 w27 w.heap.size (fun _ => True) (.slice (some ⟨go23, 0, none⟩) x146000_1.length co23) y146 := (by rw [hw, Ny146.out]; exact HP26.1); clear HP26; have n0_ := Aside0.mk (Kd.S_after (v := (.slice (some ⟨go23, 0, none⟩) x146000_1.length co23)) (v1 := (.slice (some ⟨go23, 0, none⟩) x146000_1.length co23)) (ok := (fun k_ => some k_ ≠ (.slice Ao12 t135.length co12 : Value).ownBlock ∧ k_ ≠ gb145)) (by (with_reducible repeat (first | apply Kd.S_alloc | apply Kd.S_drewN | apply Kd.S_drew)); exact Kd.S_mono HO_6.out (fun _ hk => ⟨⟨hk.1, hk.2.2⟩, hk.2.1⟩)) hg (.inl rfl)); have n1_ := Aside0.mk (Kd.S_after (v := (.slice (some ⟨go23, 0, none⟩) x146000_1.length co23)) (v1 := (.slice (some ⟨go23, 0, none⟩) x146000_1.length co23)) (ok := (fun k_ => some k_ ≠ (v139 : Value).ownBlock ∧ k_ ≠ gb145)) (by (with_reducible repeat (first | apply Kd.S_alloc | apply Kd.S_drewN | apply Kd.S_drew)); exact Kd.S_mono HO_142000.out (fun _ hk => ⟨⟨hk.1, hk.2.2⟩, hk.2.1⟩)) hg (.inl rfl)); have n2_ := Aside0.mk (hp_); have n3_ := Aside0.mk (blk_grown (g := gb141) (o := .cells #[.slice Ao12 t135.length co12] 63 (0, 0)) (by (with_reducible repeat (first | refine blk_drewN ?_ _ | refine blk_drew ?_ | refine blk_alloc ?_ _)); exact BK141.out) hg (Kd.R_ne HO_146000.out BK141.out (by decide))); have n4_ := Aside0.mk (blk_grown (g := gb145) (o := .cells #[.slice (some ⟨go23, 0, none⟩) x146000_1.length co23] 56 (0, 0)) (by (with_reducible repeat (first | refine blk_drewN ?_ _ | refine blk_drew ?_ | refine blk_alloc ?_ _)); exact BK145.out) hg (Kd.R_ne HO_146000.out BK145.out (by decide))); have n5_ := Aside0.mk ((by rw [hw]; exact below_set (HB.out) GB23.out : Below w.heap.size w w27)); clear HO_6; clear HO_142000; clear HO_146000; clear BK141; clear BK145; clear HB; have HO_6 := n0_; have HO_142000 := n1_; have HO_146000 := n2_; have BK141 := n3_; have BK145 := n4_; have HB := n5_; clear n0_ n1_ n2_ n3_ n4_ n5_; clear hg hw hp_))
  repeat (go_step3; try go_wp2_with (fail))
  (try (simp only [Exit.noGoto_normal, Exit.noGoto_exit, Exit.noGoto_ret]; try go_wp2_with (fail)))
  go_roundg k1
  case measure => have := HK1.out; omega
  case rel => exact ⟨(wrap64 (x35_1 + 1)), (y146), (.slice (some ⟨go23, 0, none⟩) x146000_1.length co23), (by first | rfl | (simp; done) | (simp [*]; done)), H', ⟨by have := HK1.out; omega⟩, ⟨by (with_reducible repeat (first | apply Kd.S_alloc | apply Kd.S_drewN | apply Kd.S_drew)); exact Kd.S_mono HO_6.out (fun _ hk => ⟨hk.1.1, ⟨hk.2, hk.1.2⟩⟩)⟩, ⟨by (with_reducible repeat (first | apply Kd.S_alloc | apply Kd.S_drewN | apply Kd.S_drew)); exact Kd.S_mono HO_142000.out (fun _ hk => ⟨hk.1.1, ⟨hk.2, hk.1.2⟩⟩)⟩, ⟨by (with_reducible repeat (first | apply Kd.R_alloc | apply Kd.R_drewN | apply Kd.R_drew)); exact HO_146000.out⟩, ⟨by (with_reducible repeat (first | refine blk_drewN ?_ _ | refine blk_drew ?_ | refine blk_alloc ?_ _)); exact BK141.out⟩, ⟨by (with_reducible repeat (first | refine blk_drewN ?_ _ | refine blk_drew ?_ | refine blk_alloc ?_ _)); exact BK145.out⟩, ⟨by repeat (first | (with_reducible first | exact HB.out | apply below_alloc | apply pw_below_drewN | apply below_drew1 | refine below_set ?_ GE141.out | refine below_set ?_ GE145.out) | exact HB.out)⟩⟩
 rw [if_neg c20] at H
 have c20b0 := decide_eq_false c20
 clear c20
 have H' := Aside0.mk H
 clear H
 go_wp2_with (first | ((with_reducible refine gate_dst (N := 9) rfl ?_); refine box_event ?hg (N := 9) ?hd (cs := #[.slice none 0 0]) (t := 63) ?hr ?_; (case hd => rfl); (case hg => rfl); (case hr => first | (go_simp; done) | (go_simp; rfl)); intro gb147 hg w28 hbox hb; have n0_ := Aside0.mk (Kd.S_below (by (with_reducible repeat (first | apply Kd.S_alloc | apply Kd.S_drewN | apply Kd.S_drew)); exact HO_6.out) hb); have n1_ := Aside0.mk (Kd.S_below (by (with_reducible repeat (first | apply Kd.S_alloc | apply Kd.S_drewN | apply Kd.S_drew)); exact HO_142000.out) hb); have n2_ := Aside0.mk (Kd.R_below (by (with_reducible repeat (first | apply Kd.R_alloc | apply Kd.R_drewN | apply Kd.R_drew)); exact HO_146000.out) hb); have n3_ := Aside0.mk (blk_below (g := gb141) (o := .cells #[.slice Ao12 t135.length co12] 63 (0, 0)) (by (with_reducible repeat (first | refine blk_drewN ?_ _ | refine blk_drew ?_ | refine blk_alloc ?_ _)); exact BK141.out) hb); have n4_ := Aside0.mk (blk_below (g := gb145) (o := .cells #[u146000] 56 (0, 0)) (by (with_reducible repeat (first | refine blk_drewN ?_ _ | refine blk_drew ?_ | refine blk_alloc ?_ _)); exact BK145.out) hb); have n5_ := Aside0.mk (below_step (by repeat (first | (with_reducible first | exact HB.out | apply below_alloc | apply pw_below_drewN | apply below_drew1 | refine below_set ?_ GE141.out | refine below_set ?_ GE145.out) | exact HB.out)) hb); have n6_ := Aside0.mk (hbox); have n7_ := Aside0.mk ((by rw [hg]; exact (below_size (by repeat (first | (with_reducible first | exact HB.out | apply below_alloc | apply pw_below_drewN | apply below_drew1 | refine below_set ?_ GE141.out | refine below_set ?_ GE145.out) | exact HB.out))) : w.heap.size ≤ gb147)); have n8_ := Aside0.mk ((by rw [hg]; exact (below_size (by repeat (first | (with_reducible first | exact HB.out | apply below_alloc | apply pw_below_drewN | apply below_drew1 | refine below_set ?_ GE141.out | refine below_set ?_ GE145.out) | exact HB.out))) : w.heap.size ≤ gb147)); have n9_ := Aside0.mk ((by rw [hg]; exact Nat.ne_of_lt (blk_lt (g := gb141) (o := .cells #[.slice Ao12 t135.length co12] 63 (0, 0)) (by (with_reducible repeat (first | refine blk_drewN ?_ _ | refine blk_drew ?_ | refine blk_alloc ?_ _)); exact BK141.out)) : gb141 ≠ gb147)); have n10_ := Aside0.mk ((by rw [hg]; exact Nat.ne_of_gt (blk_lt (g := gb141) (o := .cells #[.slice Ao12 t135.length co12] 63 (0, 0)) (by (with_reducible repeat (first | refine blk_drewN ?_ _ | refine blk_drew ?_ | refine blk_alloc ?_ _)); exact BK141.out)) : gb147 ≠ gb141)); have n11_ := Aside0.mk ((by rw [hg]; exact Nat.ne_of_lt (blk_lt (g := gb145) (o := .cells #[u146000] 56 (0, 0)) (by (with_reducible repeat (first | refine blk_drewN ?_ _ | refine blk_drew ?_ | refine blk_alloc ?_ _)); exact BK145.out)) : gb145 ≠ gb147)); have n12_ := Aside0.mk ((by rw [hg]; exact Nat.ne_of_gt (blk_lt (g := gb145) (o := .cells #[u146000] 56 (0, 0)) (by (with_reducible repeat (first | refine blk_drewN ?_ _ | refine blk_drew ?_ | refine blk_alloc ?_ _)); exact BK145.out)) : gb147 ≠ gb145)); clear HO_6; clear HO_142000; clear HO_146000; clear BK141; clear BK145; clear HB; have HO_6 := n0_; have HO_142000 := n1_; have HO_146000 := n2_; have BK141 := n3_; have BK145 := n4_; have HB := n5_; have BK147 := n6_; have GW147 := n7_; have GE147 := n8_; have NB141_147 := n9_; have NB147_141 := n10_; have NB145_147 := n11_; have NB147_145 := n12_; clear n0_ n1_ n2_ n3_ n4_ n5_ n6_ n7_ n8_ n9_ n10_ n11_ n12_; clear hb hbox hg))
 repeat (go_step3; try go_wp2_with (fail))
 (try (simp only [Exit.noGoto_normal, Exit.noGoto_exit, Exit.noGoto_ret]; try go_wp2_with (fail)))
 go_loopg [43] k1 (fun kq v43 w' => ∃ (x43_2 : Int) (x146000_2 : List Int) (x148000_2 : List (List Int)) (u146000 : Value) (u148000 : Value), v43 = .int .i64 x43_2 ∧ Aside0 (comps_Comps.l1 kq t134 t138 t134 x43_2 t135 x146000_2 x148000_2 = some r) ∧ Aside0 (kq ≤ k1) ∧ Aside0 (Kd.S (Kd.slice 3 (Kd.int .i64)) 56 w' w.heap.size (fun k_ => some k_ ≠ ((.slice Ao12 t135.length co12) : Value).ownBlock ∧ some k_ ≠ (u146000 : Value).ownBlock ∧ some k_ ≠ (u148000 : Value).ownBlock ∧ k_ ≠ gb145) v139 t138) ∧ Aside0 (Kd.S (Kd.slice 3 (Kd.int .i64)) 56 w' w.heap.size (fun k_ => some k_ ≠ (v139 : Value).ownBlock ∧ some k_ ≠ (u146000 : Value).ownBlock ∧ some k_ ≠ (u148000 : Value).ownBlock ∧ k_ ≠ gb145) (.slice Ao12 t135.length co12) t135) ∧ Aside0 (Kd.R (Kd.int .i64) 3 w' w.heap.size (fun _ => True) u146000 x146000_2) ∧ Aside0 (Kd.S (Kd.slice 3 (Kd.int .i64)) 56 w' w.heap.size (fun k_ => some k_ ≠ (v139 : Value).ownBlock ∧ some k_ ≠ ((.slice Ao12 t135.length co12) : Value).ownBlock ∧ some k_ ≠ (u146000 : Value).ownBlock ∧ k_ ≠ gb145) u148000 x148000_2) ∧ Aside0 (w'.heap[gb141]? = some (.cells #[(.slice Ao12 t135.length co12)] 63 (0, 0))) ∧ Aside0 (w'.heap[gb145]? = some (.cells #[u146000] 56 (0, 0))) ∧ Aside0 (w'.heap[gb147]? = some (.cells #[u148000] 63 (0, 0))) ∧ Aside0 (Below w.heap.size w w'))
 case atStart => exact ⟨(0), (x146000_1), (([] : List (List Int))), (u146000), (.slice none 0 0), (by first | rfl | (simp; done) | (simp [*]; done)), H', ⟨Nat.le_refl _⟩, ⟨by (with_reducible repeat (first | apply Kd.S_alloc | apply Kd.S_drewN | apply Kd.S_drew)); exact Kd.S_mono HO_6.out (fun _ hk => ⟨hk.1, ⟨hk.2.1, ⟨(by simp [Value.ownBlock]), hk.2.2⟩⟩⟩)⟩, ⟨by (with_reducible repeat (first | apply Kd.S_alloc | apply Kd.S_drewN | apply Kd.S_drew)); exact Kd.S_mono HO_142000.out (fun _ hk => ⟨hk.1, ⟨hk.2.1, ⟨(by simp [Value.ownBlock]), hk.2.2⟩⟩⟩)⟩, ⟨by (with_reducible repeat (first | apply Kd.R_alloc | apply Kd.R_drewN | apply Kd.R_drew)); exact HO_146000.out⟩, ⟨by first | exact Kd.S_nil _ _ _ _ _ | exact Kd.N_nil _ _ _ _ _ | exact Kd.V_nil _ _ _ _ _ | exact Kd.Q_nil _ _ _ _ _ | exact Kd.R_nil _ _ _ _ _⟩, ⟨by (with_reducible repeat (first | refine blk_drewN ?_ _ | refine blk_drew ?_ | refine blk_alloc ?_ _)); exact BK141.out⟩, ⟨by (with_reducible repeat (first | refine blk_drewN ?_ _ | refine blk_drew ?_ | refine blk_alloc ?_ _)); exact BK145.out⟩, ⟨by (with_reducible repeat (first | refine blk_drewN ?_ _ | refine blk_drew ?_ | refine blk_alloc ?_ _)); exact BK147.out⟩, ⟨by repeat (first | (with_reducible first | exact HB.out | apply below_alloc | apply pw_below_drewN | apply below_drew1 | refine below_set ?_ GE141.out | refine below_set ?_ GE145.out | refine below_set ?_ GE147.out) | exact HB.out)⟩⟩
 clear H'
 try clear c1
 try clear c2
 try clear p2
 try clear q2
 try clear hx2
 try clear hf2
 try clear c3
 try clear p3
 try clear c6
 try clear c6b0
 try clear c6b1
 try clear p6
 try clear c7
 try clear c7b0
 try clear c7b1
 try clear c18
 try clear c19
 try clear c20
 try clear c20b0
 try clear c21
 try clear c21b0
 try clear c22
 try clear c22b0
 try clear p23
 try clear q23
 try clear hx23
 try clear hf23
 try clear c24
 try clear hcz13_0
 try clear hcz19_0
 try clear hcz25_0
 try clear hfz13_0
 try clear hfz19_0
 try clear hfz25_0
 try clear hx23_0
 try clear p2
 try clear p23
 try clear p3
 try clear q23
 obtain ⟨x43_2, x146000_2, x148000_2, u146000, u148000, rfl, HA, HK2, HO_6, HO_142000, HO_146000, HO_148000, BK141, BK145, BK147, HB⟩ := hrel
 obtain _ | k2 := gk
 · exact absurd HA.out (by simp [comps_Comps.l1])
 have H := HA.out
 clear HA
 simp only [comps_Comps.l1] at H
 by_cases c29 : x43_2 < t134
 case pos =>
  rw [if_pos c29] at H
  have c29b0 := decide_eq_true c29
  clear c29
  by_cases c30 : 0 ≤ x43_2
  case neg => rw [if_neg c30] at H; exact absurd H (by simp)
  rw [if_pos c30] at H
  have c30b0 := decide_eq_true c30
  clear c30
  by_cases c31 : x43_2 < (x146000_2.length : Int)
  case neg => rw [if_neg c31] at H; exact absurd H (by simp)
  rw [if_pos c31] at H
  have c31b0 := decide_eq_true c31
  clear c31
  by_cases c32 : (rd x146000_2 x43_2) ≥ 0
  case pos =>
   rw [if_pos c32] at H
   have c32b0 := decide_eq_true c32
   clear c32
   have H' := Aside0.mk H
   clear H
   have hnb33 := NB145_141.out
   have hnc33 := NB141_145.out
   have hnb34 := NB145_147.out
   have hnc34 := NB147_145.out
   have hcz35_0 : wr.cell? ⟨gb145, 0, none⟩ = some (u146000) := (blk_cell BK145.out 0).trans rfl
   have hfz35_0 := blk_frozen BK145.out 0
   obtain ⟨Ao36, co36, eo36⟩ := Kd.R_slice HO_146000.out
   subst eo36
   have p148 : 0 ≤ (x43_2 : Int) := of_decide_eq_true (by with_reducible assumption)
   have q148 : x43_2 < (x146000_2.length : Int) := of_decide_eq_true (by with_reducible assumption)
   obtain ⟨ad148, e148, hx148_0⟩ := Kd.at_int (Kd.R_reads' HO_146000.out).2.2 x43_2 p148 q148
   cases e148
   replace p148 := eq_true p148
   replace q148 := eq_true q148
   go_wp2
   repeat (go_step3; try go_wp2_with (fail))
   (try (simp only [Exit.noGoto_normal, Exit.noGoto_exit, Exit.noGoto_ret]; try go_wp2_with (fail)))
   go_roundg k2
   case measure => have := HK1.out; have := HK2.out; omega
   case rel => exact ⟨(wrap64 (x43_2 + 1)), (x146000_2), (x148000_2), (.slice (some ad148) x146000_2.length co36), (u148000), (by first | rfl | (simp; done) | (simp [*]; done)), H', ⟨by have := HK1.out; have := HK2.out; omega⟩, ⟨by (with_reducible repeat (first | apply Kd.S_alloc | apply Kd.S_drewN | apply Kd.S_drew)); exact HO_6.out⟩, ⟨by (with_reducible repeat (first | apply Kd.S_alloc | apply Kd.S_drewN | apply Kd.S_drew)); exact HO_142000.out⟩, ⟨by (with_reducible repeat (first | apply Kd.R_alloc | apply Kd.R_drewN | apply Kd.R_drew)); exact HO_146000.out⟩, ⟨by (with_reducible repeat (first | apply Kd.S_alloc | apply Kd.S_drewN | apply Kd.S_drew)); exact HO_148000.out⟩, ⟨by (with_reducible repeat (first | refine blk_drewN ?_ _ | refine blk_drew ?_ | refine blk_alloc ?_ _)); exact BK141.out⟩, ⟨by (with_reducible repeat (first | refine blk_drewN ?_ _ | refine blk_drew ?_ | refine blk_alloc ?_ _)); exact BK145.out⟩, ⟨by (with_reducible repeat (first | refine blk_drewN ?_ _ | refine blk_drew ?_ | refine blk_alloc ?_ _)); exact BK147.out⟩, ⟨by repeat (first | (with_reducible first | exact HB.out | apply below_alloc | apply pw_below_drewN | apply below_drew1 | refine below_set ?_ GE141.out | refine below_set ?_ GE145.out | refine below_set ?_ GE147.out) | exact HB.out)⟩⟩
  rw [if_neg c32] at H
  have c32b0 := decide_eq_false c32
  clear c32
  replace H := Option.bind_eq_some_iff.mp H
  obtain ⟨t149, A370, H⟩ := H
  have A37 := Aside0.mk A370
  clear A370
  replace H := Option.bind_eq_some_iff.mp H
  obtain ⟨t152, A380, H⟩ := H
  have A38 := Aside0.mk A380
  clear A380
  have H' := Aside0.mk H
  clear H
  have hnb39 := NB145_141.out
  have hnc39 := NB141_145.out
  have hnb40 := NB145_147.out
  have hnc40 := NB147_145.out
  have hcz41_0 : wr.cell? ⟨gb145, 0, none⟩ = some (u146000) := (blk_cell BK145.out 0).trans rfl
  have hfz41_0 := blk_frozen BK145.out 0
  obtain ⟨Ao42, co42, eo42⟩ := Kd.R_slice HO_146000.out
  subst eo42
  have p148 : 0 ≤ (x43_2 : Int) := of_decide_eq_true (by with_reducible assumption)
  have q148 : x43_2 < (x146000_2.length : Int) := of_decide_eq_true (by with_reducible assumption)
  obtain ⟨ad148, e148, hx148_0⟩ := Kd.at_int (Kd.R_reads' HO_146000.out).2.2 x43_2 p148 q148
  cases e148
  replace p148 := eq_true p148
  replace q148 := eq_true q148
  have hnb43 := NB141_147.out
  have hnc43 := NB147_141.out
  have hcz44_0 : wr.cell? ⟨gb141, 0, none⟩ = some (.slice Ao12 t135.length co12) := (blk_cell BK141.out 0).trans rfl
  have hfz44_0 := blk_frozen BK141.out 0
  go_wp2_with (first | ((with_reducible refine gate_callee (f := 36) rfl ?_); refine goesL_ (some 53) rfl rfl Try.func36 (by kernel_rfl) rfl #[.slice Ao12 t135.length co12, .int .i64 x43_2] rfl (by (try simp only [List.map_toArray, List.map_cons, List.map_nil]); first | done | rfl | (simp only [List.length_drop, List.length_take]; rfl)) ?_; (with_reducible refine (comps_seen.calls k2 _ _ t135 x43_2 t149 _ ?side1 ?side2 A37.out).mono ?_); (case side1 => repeat (first | exact (Kd.S_reads' HO_142000.out).2.2 | (with_reducible refine Kd.C_alloc ?_ _) | (with_reducible refine Kd.C_drewN ?_ _) | (with_reducible refine Kd.C_drew ?_))); (case side2 => exact (Kd.S_reads' HO_142000.out).2.1); rintro e w45 ⟨v150, rfl, ho0, hb⟩; refine ⟨_, rfl, ?_⟩; have n0_ := Aside0.mk (Kd.S_below (by (with_reducible repeat (first | apply Kd.S_alloc | apply Kd.S_drewN | apply Kd.S_drew)); exact HO_6.out) hb); have n1_ := Aside0.mk (Kd.S_below (by (with_reducible repeat (first | apply Kd.S_alloc | apply Kd.S_drewN | apply Kd.S_drew)); exact HO_142000.out) hb); have n2_ := Aside0.mk (Kd.R_below (by (with_reducible repeat (first | apply Kd.R_alloc | apply Kd.R_drewN | apply Kd.R_drew)); exact HO_146000.out) hb); have n3_ := Aside0.mk (Kd.S_below (by (with_reducible repeat (first | apply Kd.S_alloc | apply Kd.S_drewN | apply Kd.S_drew)); exact HO_148000.out) hb); have n4_ := Aside0.mk (Kd.R_lower ho0 (below_size (by repeat (first | (with_reducible first | exact HB.out | apply below_alloc | apply pw_below_drewN | apply below_drew1 | refine below_set ?_ GE141.out | refine below_set ?_ GE145.out | refine below_set ?_ GE147.out) | exact HB.out)))); have n5_ := Aside0.mk (blk_below (g := gb141) (o := .cells #[.slice Ao12 t135.length co12] 63 (0, 0)) (by (with_reducible repeat (first | refine blk_drewN ?_ _ | refine blk_drew ?_ | refine blk_alloc ?_ _)); exact BK141.out) hb); have n6_ := Aside0.mk (blk_below (g := gb145) (o := .cells #[.slice (some ad148) x146000_2.length co42] 56 (0, 0)) (by (with_reducible repeat (first | refine blk_drewN ?_ _ | refine blk_drew ?_ | refine blk_alloc ?_ _)); exact BK145.out) hb); have n7_ := Aside0.mk (blk_below (g := gb147) (o := .cells #[u148000] 63 (0, 0)) (by (with_reducible repeat (first | refine blk_drewN ?_ _ | refine blk_drew ?_ | refine blk_alloc ?_ _)); exact BK147.out) hb); have n8_ := Aside0.mk (below_step (by repeat (first | (with_reducible first | exact HB.out | apply below_alloc | apply pw_below_drewN | apply below_drew1 | refine below_set ?_ GE141.out | refine below_set ?_ GE145.out | refine below_set ?_ GE147.out) | exact HB.out)) hb); clear HO_6; clear HO_142000; clear HO_146000; clear HO_148000; clear BK141; clear BK145; clear BK147; clear HB; have HO_6 := n0_; have HO_142000 := n1_; have HO_146000 := n2_; have HO_148000 := n3_; have HO151 := n4_; have BK141 := n5_; have BK145 := n6_; have BK147 := n7_; have HB := n8_; clear n0_ n1_ n2_ n3_ n4_ n5_ n6_ n7_ n8_; (try clear hb); (try clear hb2); (try clear hk); (try clear hi); (try clear ho0); obtain ⟨Ao46, co46, eo46⟩ := Kd.S_slice HO_6.out; subst eo46) | ((with_reducible refine gate_callee (f := 36) rfl ?_); refine goesL_ (some 56) rfl rfl Try.func36 (by kernel_rfl) rfl #[.slice Ao46 t138.length co46, .int .i64 x43_2] rfl (by (try simp only [List.map_toArray, List.map_cons, List.map_nil]); first | done | rfl | (simp only [List.length_drop, List.length_take]; rfl)) ?_; (with_reducible refine (comps_seen.calls k2 _ _ t138 x43_2 t152 _ ?side1 ?side2 A38.out).mono ?_); (case side1 => repeat (first | exact (Kd.S_reads' HO_6.out).2.2 | (with_reducible refine Kd.C_alloc ?_ _) | (with_reducible refine Kd.C_drewN ?_ _) | (with_reducible refine Kd.C_drew ?_))); (case side2 => exact (Kd.S_reads' HO_6.out).2.1); rintro e w47 ⟨v153, rfl, ho0, hb⟩; refine ⟨_, rfl, ?_⟩; have n0_ := Aside0.mk (Kd.S_below (by (with_reducible repeat (first | apply Kd.S_alloc | apply Kd.S_drewN | apply Kd.S_drew)); exact HO_6.out) hb); have n1_ := Aside0.mk (Kd.S_below (by (with_reducible repeat (first | apply Kd.S_alloc | apply Kd.S_drewN | apply Kd.S_drew)); exact HO_142000.out) hb); have n2_ := Aside0.mk (Kd.R_below (by (with_reducible repeat (first | apply Kd.R_alloc | apply Kd.R_drewN | apply Kd.R_drew)); exact HO_146000.out) hb); have n3_ := Aside0.mk (Kd.S_below (by (with_reducible repeat (first | apply Kd.S_alloc | apply Kd.S_drewN | apply Kd.S_drew)); exact HO_148000.out) hb); have n4_ := Aside0.mk (Kd.R_elder' (by (with_reducible repeat (first | apply Kd.R_alloc | apply Kd.R_drewN | apply Kd.R_drew)); exact HO151.out) (Kd.R_base ho0) hb); have n5_ := Aside0.mk (Kd.R_lower (Kd.R_new' ho0 (Kd.R_lt (by (with_reducible repeat (first | apply Kd.R_alloc | apply Kd.R_drewN | apply Kd.R_drew)); exact HO151.out))) (below_size (by repeat (first | (with_reducible first | exact HB.out | apply below_alloc | apply pw_below_drewN | apply below_drew1 | refine below_set ?_ GE141.out | refine below_set ?_ GE145.out | refine below_set ?_ GE147.out) | exact HB.out)))); have n6_ := Aside0.mk (blk_below (g := gb141) (o := .cells #[.slice Ao12 t135.length co12] 63 (0, 0)) (by (with_reducible repeat (first | refine blk_drewN ?_ _ | refine blk_drew ?_ | refine blk_alloc ?_ _)); exact BK141.out) hb); have n7_ := Aside0.mk (blk_below (g := gb145) (o := .cells #[.slice (some ad148) x146000_2.length co42] 56 (0, 0)) (by (with_reducible repeat (first | refine blk_drewN ?_ _ | refine blk_drew ?_ | refine blk_alloc ?_ _)); exact BK145.out) hb); have n8_ := Aside0.mk (blk_below (g := gb147) (o := .cells #[u148000] 63 (0, 0)) (by (with_reducible repeat (first | refine blk_drewN ?_ _ | refine blk_drew ?_ | refine blk_alloc ?_ _)); exact BK147.out) hb); have n9_ := Aside0.mk (below_step (by repeat (first | (with_reducible first | exact HB.out | apply below_alloc | apply pw_below_drewN | apply below_drew1 | refine below_set ?_ GE141.out | refine below_set ?_ GE145.out | refine below_set ?_ GE147.out) | exact HB.out)) hb); clear HO_6; clear HO_142000; clear HO_146000; clear HO_148000; clear HO151; clear BK141; clear BK145; clear BK147; clear HB; have HO_6 := n0_; have HO_142000 := n1_; have HO_146000 := n2_; have HO_148000 := n3_; have HO151 := n4_; have HO154 := n5_; have BK141 := n6_; have BK145 := n7_; have BK147 := n8_; have HB := n9_; clear n0_ n1_ n2_ n3_ n4_ n5_ n6_ n7_ n8_ n9_; (try clear hb); (try clear hb2); (try clear hk); (try clear hi); (try clear ho0)))
  repeat (go_step3; try go_wp2_with (fail))
  (try (simp only [Exit.noGoto_normal, Exit.noGoto_exit, Exit.noGoto_ret]; try go_wp2_with (fail)))
  go_loopg [11, 58] k2 (fun kq v11 v58 w' => ∃ (x11_3 : List Int) (x58_3 : Int) (x146000_3 : List Int) (u146000 : Value), v58 = .int .i64 x58_3 ∧ Aside0 (comps_Comps.l2 kq t134 t138 x11_3 t149 t152 t134 x43_2 t134 x58_3 t135 x146000_3 x148000_2 = some r) ∧ Aside0 (kq ≤ k2) ∧ Aside0 (Kd.S (Kd.slice 3 (Kd.int .i64)) 56 w' w.heap.size (fun k_ => some k_ ≠ (v11 : Value).ownBlock ∧ some k_ ≠ ((.slice Ao12 t135.length co12) : Value).ownBlock ∧ some k_ ≠ (u146000 : Value).ownBlock ∧ some k_ ≠ (u148000 : Value).ownBlock ∧ k_ ≠ gb145) (.slice Ao46 t138.length co46) t138) ∧ Aside0 (Kd.R (Kd.int .i64) 3 w' w.heap.size (fun k_ => some k_ ≠ (u146000 : Value).ownBlock) v11 x11_3) ∧ Aside0 (Kd.R Kd.bool 4 w' w.heap.size (fun k_ => some k_ ≠ (v153 : Value).ownBlock) v150 t149) ∧ Aside0 (Kd.R Kd.bool 4 w' w.heap.size (fun k_ => some k_ ≠ (v150 : Value).ownBlock) v153 t152) ∧ Aside0 (Kd.S (Kd.slice 3 (Kd.int .i64)) 56 w' w.heap.size (fun k_ => some k_ ≠ ((.slice Ao46 t138.length co46) : Value).ownBlock ∧ some k_ ≠ (v11 : Value).ownBlock ∧ some k_ ≠ (u146000 : Value).ownBlock ∧ some k_ ≠ (u148000 : Value).ownBlock ∧ k_ ≠ gb145) (.slice Ao12 t135.length co12) t135) ∧ Aside0 (Kd.R (Kd.int .i64) 3 w' w.heap.size (fun k_ => some k_ ≠ (v11 : Value).ownBlock) u146000 x146000_3) ∧ Aside0 (Kd.S (Kd.slice 3 (Kd.int .i64)) 56 w' w.heap.size (fun k_ => some k_ ≠ ((.slice Ao46 t138.length co46) : Value).ownBlock ∧ some k_ ≠ (v11 : Value).ownBlock ∧ some k_ ≠ ((.slice Ao12 t135.length co12) : Value).ownBlock ∧ some k_ ≠ (u146000 : Value).ownBlock ∧ k_ ≠ gb145) u148000 x148000_2) ∧ Aside0 (w'.heap[gb141]? = some (.cells #[(.slice Ao12 t135.length co12)] 63 (0, 0))) ∧ Aside0 (w'.heap[gb145]? = some (.cells #[u146000] 56 (0, 0))) ∧ Aside0 (w'.heap[gb147]? = some (.cells #[u148000] 63 (0, 0))) ∧ Aside0 (Below w.heap.size w w'))
  case atStart => exact ⟨(([] : List Int)), (0), (x146000_2), (.slice (some ad148) x146000_2.length co42), (by first | rfl | (simp; done) | (simp [*]; done)), H', ⟨Nat.le_refl _⟩, ⟨by (with_reducible repeat (first | apply Kd.S_alloc | apply Kd.S_drewN | apply Kd.S_drew)); exact Kd.S_mono HO_6.out (fun _ hk => ⟨(by simp [Value.ownBlock]), ⟨hk.1, ⟨hk.2.1, ⟨hk.2.2.1, hk.2.2.2⟩⟩⟩⟩)⟩, ⟨by first | exact Kd.R_nil _ _ _ _ _ | exact Kd.N_nil _ _ _ _ _ | exact Kd.V_nil _ _ _ _ _ | exact Kd.Q_nil _ _ _ _ _ | exact Kd.S_nil _ _ _ _ _⟩, ⟨by (with_reducible repeat (first | apply Kd.R_alloc | apply Kd.R_drewN | apply Kd.R_drew)); exact Kd.R_mono HO151.out (fun _ hk => hk.2)⟩, ⟨by (with_reducible repeat (first | apply Kd.R_alloc | apply Kd.R_drewN | apply Kd.R_drew)); exact Kd.R_mono HO154.out (fun _ hk => hk.2)⟩, ⟨by (with_reducible repeat (first | apply Kd.S_alloc | apply Kd.S_drewN | apply Kd.S_drew)); exact Kd.S_mono HO_142000.out (fun _ hk => ⟨hk.1, ⟨(by simp [Value.ownBlock]), ⟨hk.2.1, ⟨hk.2.2.1, hk.2.2.2⟩⟩⟩⟩)⟩, ⟨by (with_reducible repeat (first | apply Kd.R_alloc | apply Kd.R_drewN | apply Kd.R_drew)); exact Kd.R_mono HO_146000.out (fun _ hk => (by simp [Value.ownBlock]))⟩, ⟨by (with_reducible repeat (first | apply Kd.S_alloc | apply Kd.S_drewN | apply Kd.S_drew)); exact Kd.S_mono HO_148000.out (fun _ hk => ⟨hk.1, ⟨(by simp [Value.ownBlock]), ⟨hk.2.1, ⟨hk.2.2.1, hk.2.2.2⟩⟩⟩⟩)⟩, ⟨by (with_reducible repeat (first | refine blk_drewN ?_ _ | refine blk_drew ?_ | refine blk_alloc ?_ _)); exact BK141.out⟩, ⟨by (with_reducible repeat (first | refine blk_drewN ?_ _ | refine blk_drew ?_ | refine blk_alloc ?_ _)); exact BK145.out⟩, ⟨by (with_reducible repeat (first | refine blk_drewN ?_ _ | refine blk_drew ?_ | refine blk_alloc ?_ _)); exact BK147.out⟩, ⟨by repeat (first | (with_reducible first | exact HB.out | apply below_alloc | apply pw_below_drewN | apply below_drew1 | refine below_set ?_ GE141.out | refine below_set ?_ GE145.out | refine below_set ?_ GE147.out) | exact HB.out)⟩⟩
  clear H'
  try clear c1
  try clear p1
  try clear q1
  try clear hx1
  try clear c2
  try clear p2
  try clear q2
  try clear hx2
  try clear hf2
  try clear c3
  try clear p3
  try clear c4
  try clear c6
  try clear c6b0
  try clear c6b1
  try clear p6
  try clear c7
  try clear c7b0
  try clear c7b1
  try clear p14
  try clear q14
  try clear hx14
  try clear c18
  try clear c19
  try clear c20
  try clear c20b0
  try clear c21
  try clear c21b0
  try clear c22
  try clear c22b0
  try clear p23
  try clear q23
  try clear hx23
  try clear hf23
  try clear c24
  try clear c29
  try clear c29b0
  try clear c30
  try clear c30b0
  try clear c31
  try clear c31b0
  try clear c32
  try clear c32b0
  try clear c33
  try clear c34
  try clear c35
  try clear c36
  try clear c39
  try clear c40
  try clear c43
  try clear hcz13_0
  try clear hcz19_0
  try clear hcz25_0
  try clear hcz35_0
  try clear hcz41_0
  try clear hcz44_0
  try clear hfz13_0
  try clear hfz19_0
  try clear hfz25_0
  try clear hfz35_0
  try clear hfz41_0
  try clear hfz44_0
  try clear hx148_0
  try clear hx23_0
  try clear p148
  try clear p2
  try clear p23
  try clear p3
  try clear p6
  try clear q148
  try clear q2
  try clear q23
  obtain ⟨x11_3, x58_3, x146000_3, u146000, rfl, HA, HK3, HO_6, HO_11, HO_12, HO_13, HO_142000, HO_146000, HO_148000, BK141, BK145, BK147, HB⟩ := hrel
  obtain _ | k3 := gk
  · exact absurd HA.out (by simp [comps_Comps.l2])
  have H := HA.out
  clear HA
  simp only [comps_Comps.l2] at H
  by_cases c48 : x58_3 < t134
  case neg =>
   rw [if_neg c48] at H
   have c48b0 := decide_eq_false c48
   clear c48
   by_cases c73 : x148000_2.length < 5864062014805
   case neg => rw [if_neg c73] at H; exact absurd H (by simp)
   rw [if_pos c73] at H
   have LMc73 := Aside0.mk c73
   clear c73
   obtain ⟨y161, hy161⟩ : ∃ y_ : List (List Int), y_ = (x148000_2 ++ [x11_3]) := ⟨_, rfl⟩
   replace H : (comps_Comps.l1 k3 t134 t138 t134 (wrap64 (x43_2 + 1)) t135 x146000_3 y161) = some r := by first | (rw [hy161]; with_reducible exact H) | (have H2_ := (Option.bind_some _ _).symm.trans H; rw [hy161]; with_reducible exact H2_) | (have H2_ := (Option.bind_some _ _).symm.trans H; with_reducible exact H2_) | with_reducible exact H | (rw [hy161]; exact H) | exact H
   have Ny161 := Aside0.mk hy161
   clear hy161
   have H' := Aside0.mk H
   clear H
   have hnb74 := NB147_141.out
   have hnc74 := NB141_147.out
   have hnb75 := NB147_145.out
   have hnc75 := NB145_147.out
   have hcz76_0 : wr.cell? ⟨gb147, 0, none⟩ = some (u148000) := (blk_cell BK147.out 0).trans rfl
   have hfz76_0 := blk_frozen BK147.out 0
   obtain ⟨Ao78, co78, eo78⟩ := Kd.R_slice HO_11.out
   subst eo78
   go_wp2_with (first | ((with_reducible refine gate_builtin (b := .append) (xs := #[.tmp 81, .tmp 83]) rfl ?_); at_builtin; refine Kd.S_append (Kd.slice 3 (Kd.int .i64)) (w0 := w) w.heap.size rfl (.tmp 81) (.tmp 83) 63 56 (.slice none 0 0) 24 rfl Try.underlying63 info56 rfl (by decide) (by omega) u148000 x148000_2 x11_3 [.slice Ao78 x11_3.length co78] (fun k_ => some k_ ≠ (.slice Ao46 t138.length co46 : Value).ownBlock ∧ some k_ ≠ (.slice Ao12 t135.length co12 : Value).ownBlock ∧ some k_ ≠ (u146000 : Value).ownBlock ∧ k_ ≠ gb145) (fun k_ => some k_ = (.slice Ao78 x11_3.length co78 : Value).ownBlock) rfl rfl ?aP (fun k_ hk_ => ((Kd.R_mono (ok' := fun k_ => ((fun k_ => some k_ ≠ (.slice Ao46 t138.length co46 : Value).ownBlock ∧ some k_ ≠ (.slice Ao12 t135.length co12 : Value).ownBlock ∧ some k_ ≠ (u146000 : Value).ownBlock ∧ k_ ≠ gb145)) k_ ∧ some k_ ≠ (u148000 : Value).ownBlock) (Kd.R_types (Kd.R_apart' (Kd.R_apart' (Kd.R_apart' (HO_11.out) (Kd.S_typed HO_6.out) (by decide)) (Kd.S_typed HO_142000.out) (by decide)) (Kd.S_typed HO_148000.out) (by decide)) BK145.out (by decide)) (fun k_ hk => ⟨⟨hk.1.1.1.2, ⟨hk.1.1.2, ⟨hk.1.1.1.1, hk.2⟩⟩⟩, hk.1.2⟩))).1 k_ hk_.symm) ?aF ?aO ?aB ?aS ?aL ?_; (case aP => exact Kd.M_row (Kd.R_mono (Kd.R_tight rfl (Kd.R_mono (ok' := fun k_ => ((fun k_ => some k_ ≠ (.slice Ao46 t138.length co46 : Value).ownBlock ∧ some k_ ≠ (.slice Ao12 t135.length co12 : Value).ownBlock ∧ some k_ ≠ (u146000 : Value).ownBlock ∧ k_ ≠ gb145)) k_ ∧ some k_ ≠ (u148000 : Value).ownBlock) (Kd.R_types (Kd.R_apart' (Kd.R_apart' (Kd.R_apart' (HO_11.out) (Kd.S_typed HO_6.out) (by decide)) (Kd.S_typed HO_142000.out) (by decide)) (Kd.S_typed HO_148000.out) (by decide)) BK145.out (by decide)) (fun k_ hk => ⟨⟨hk.1.1.1.2, ⟨hk.1.1.2, ⟨hk.1.1.1.1, hk.2⟩⟩⟩, hk.1.2⟩))) (fun _ h_ => h_))); (case aB => exact (by repeat (first | (with_reducible first | exact HB.out | apply below_alloc | apply pw_below_drewN | apply below_drew1 | refine below_set ?_ GE141.out | refine below_set ?_ GE145.out | refine below_set ?_ GE147.out) | exact HB.out))); (case aF => exact (fun k_ hk => ⟨Kd.fresh' (Kd.S_lt (by (with_reducible repeat (first | apply Kd.S_alloc | apply Kd.S_drewN | apply Kd.S_drew)); exact HO_6.out)) k_ hk, Kd.fresh' (Kd.S_lt (by (with_reducible repeat (first | apply Kd.S_alloc | apply Kd.S_drewN | apply Kd.S_drew)); exact HO_142000.out)) k_ hk, Kd.fresh' (Kd.R_lt (by (with_reducible repeat (first | apply Kd.R_alloc | apply Kd.R_drewN | apply Kd.R_drew)); exact HO_146000.out)) k_ hk, Kd.freshB (g := gb145) (o := .cells #[u146000] 56 (0, 0)) (by (with_reducible repeat (first | refine blk_drewN ?_ _ | refine blk_drew ?_ | refine blk_alloc ?_ _)); exact BK145.out) k_ hk⟩)); (case aO => exact (by (with_reducible repeat (first | apply Kd.S_alloc | apply Kd.S_drewN | apply Kd.S_drew)); exact Kd.S_mono HO_148000.out (fun k_ hk => ⟨⟨hk.1, ⟨hk.2.2.1, ⟨hk.2.2.2.1, hk.2.2.2.2⟩⟩⟩, fun e_ => hk.2.1 e_⟩))); (case aS => exact (below_size (by repeat (first | (with_reducible first | exact HB.out | apply below_alloc | apply pw_below_drewN | apply below_drew1 | refine below_set ?_ GE141.out | refine below_set ?_ GE145.out | refine below_set ?_ GE147.out) | exact HB.out)))); (case aL => have := LMc73.out; omega); intro v162 w77 ho hb hg hat; rw [← Ny161.out] at ho; have n0_ := Aside0.mk (Kd.S_after (ok := (fun k_ => some k_ ≠ (.slice Ao78 x11_3.length co78 : Value).ownBlock ∧ some k_ ≠ (.slice Ao12 t135.length co12 : Value).ownBlock ∧ some k_ ≠ (u146000 : Value).ownBlock ∧ k_ ≠ gb145)) (by (with_reducible repeat (first | apply Kd.S_alloc | apply Kd.S_drewN | apply Kd.S_drew)); exact Kd.S_mono HO_6.out (fun _ hk => ⟨⟨hk.1, ⟨hk.2.1, ⟨hk.2.2.1, hk.2.2.2.2⟩⟩⟩, hk.2.2.2.1⟩)) hg hat); have n1_ := Aside0.mk (Kd.R_over' (by (with_reducible repeat (first | apply Kd.R_alloc | apply Kd.R_drewN | apply Kd.R_drew)); exact HO_12.out) (Kd.S_typed (by (with_reducible repeat (first | apply Kd.S_alloc | apply Kd.S_drewN | apply Kd.S_drew)); exact HO_148000.out)) (by decide) hg); have n2_ := Aside0.mk (Kd.R_over' (by (with_reducible repeat (first | apply Kd.R_alloc | apply Kd.R_drewN | apply Kd.R_drew)); exact HO_13.out) (Kd.S_typed (by (with_reducible repeat (first | apply Kd.S_alloc | apply Kd.S_drewN | apply Kd.S_drew)); exact HO_148000.out)) (by decide) hg); have n3_ := Aside0.mk (Kd.S_after (ok := (fun k_ => some k_ ≠ (.slice Ao46 t138.length co46 : Value).ownBlock ∧ some k_ ≠ (.slice Ao78 x11_3.length co78 : Value).ownBlock ∧ some k_ ≠ (u146000 : Value).ownBlock ∧ k_ ≠ gb145)) (by (with_reducible repeat (first | apply Kd.S_alloc | apply Kd.S_drewN | apply Kd.S_drew)); exact Kd.S_mono HO_142000.out (fun _ hk => ⟨⟨hk.1, ⟨hk.2.1, ⟨hk.2.2.1, hk.2.2.2.2⟩⟩⟩, hk.2.2.2.1⟩)) hg hat); have n4_ := Aside0.mk (Kd.R_over' (by (with_reducible repeat (first | apply Kd.R_alloc | apply Kd.R_drewN | apply Kd.R_drew)); exact HO_146000.out) (Kd.S_typed (by (with_reducible repeat (first | apply Kd.S_alloc | apply Kd.S_drewN | apply Kd.S_drew)); exact HO_148000.out)) (by decide) hg); have n5_ := Aside0.mk (blk_grown (g := gb141) (o := .cells #[.slice Ao12 t135.length co12] 63 (0, 0)) (by (with_reducible repeat (first | refine blk_drewN ?_ _ | refine blk_drew ?_ | refine blk_alloc ?_ _)); exact BK141.out) hg (Kd.S_ne HO_148000.out BK141.out (by decide))); have n6_ := Aside0.mk (blk_grown (g := gb145) (o := .cells #[u146000] 56 (0, 0)) (by (with_reducible repeat (first | refine blk_drewN ?_ _ | refine blk_drew ?_ | refine blk_alloc ?_ _)); exact BK145.out) hg (Kd.S_away HO_148000.out (fun _ hk => hk.2.2.2.2))); have n7_ := Aside0.mk (blk_grown (g := gb147) (o := .cells #[u148000] 63 (0, 0)) (by (with_reducible repeat (first | refine blk_drewN ?_ _ | refine blk_drew ?_ | refine blk_alloc ?_ _)); exact BK147.out) hg (Kd.S_ne HO_148000.out BK147.out (by decide))); have n8_ := Aside0.mk (hb); have n9_ := Aside0.mk (ho); clear HO_6; clear HO_12; clear HO_13; clear HO_142000; clear HO_146000; clear BK141; clear BK145; clear BK147; clear HB; clear HO_148000; clear HO_11; have HO_6 := n0_; have HO_12 := n1_; have HO_13 := n2_; have HO_142000 := n3_; have HO_146000 := n4_; have BK141 := n5_; have BK145 := n6_; have BK147 := n7_; have HB := n8_; have HO163 := n9_; clear n0_ n1_ n2_ n3_ n4_ n5_ n6_ n7_ n8_ n9_; clear ho hb hg hat; obtain ⟨Ao79, co79, eo79⟩ := Kd.S_slice HO163.out; subst eo79; have hcz80_0 : w77.cell? ⟨gb147, 0, none⟩ = some (u148000) := (blk_cell BK147.out 0).trans rfl; have hfz80_0 := blk_frozen BK147.out 0))
   repeat (go_step3; try go_wp2_with (fail))
   (try (simp only [Exit.noGoto_normal, Exit.noGoto_exit, Exit.noGoto_ret]; try go_wp2_with (fail)))
   go_roundg k3
   case measure => have := HK1.out; have := HK2.out; have := HK3.out; omega
   case rel => exact ⟨(wrap64 (x43_2 + 1)), (x146000_3), (y161), (u146000), (.slice Ao79 y161.length co79), (by first | rfl | (simp; done) | (simp [*]; done)), H', ⟨by have := HK1.out; have := HK2.out; have := HK3.out; omega⟩, ⟨by (with_reducible repeat (first | apply Kd.S_alloc | apply Kd.S_drewN | apply Kd.S_drew)); exact Kd.S_mono (Kd.S_far (p := ⟨gb147, 0, none⟩) (Kd.S_types HO_6.out BK147.out (by decide)) (fun _ hk => hk.2) (.slice Ao79 y161.length co79)) (fun _ hk => ⟨hk.1.1.2.1, ⟨hk.1.1.2.2.1, ⟨hk.1.2, hk.1.1.2.2.2⟩⟩⟩)⟩, ⟨by (with_reducible repeat (first | apply Kd.S_alloc | apply Kd.S_drewN | apply Kd.S_drew)); exact Kd.S_mono (Kd.S_far (p := ⟨gb147, 0, none⟩) (Kd.S_types HO_142000.out BK147.out (by decide)) (fun _ hk => hk.2) (.slice Ao79 y161.length co79)) (fun _ hk => ⟨hk.1.1.1, ⟨hk.1.1.2.2.1, ⟨hk.1.2, hk.1.1.2.2.2⟩⟩⟩)⟩, ⟨by (with_reducible repeat (first | apply Kd.R_alloc | apply Kd.R_drewN | apply Kd.R_drew)); exact Kd.R_mono (Kd.R_far (p := ⟨gb147, 0, none⟩) (Kd.R_types HO_146000.out BK147.out (by decide)) (fun _ hk => hk.2) (.slice Ao79 y161.length co79)) (fun _ hk => trivial)⟩, ⟨by (with_reducible repeat (first | apply Kd.S_alloc | apply Kd.S_drewN | apply Kd.S_drew)); exact Kd.S_mono (Kd.S_far (p := ⟨gb147, 0, none⟩) (Kd.S_types HO163.out BK147.out (by decide)) (fun _ hk => hk.2) (.slice Ao79 y161.length co79)) (fun _ hk => ⟨hk.1.1, ⟨hk.1.2.1, ⟨hk.1.2.2.1, hk.1.2.2.2⟩⟩⟩)⟩, ⟨by (with_reducible repeat (first | refine blk_drewN ?_ _ | refine blk_drew ?_ | refine blk_alloc ?_ _)); refine blk_far ?_ NB141_147.out _; (with_reducible repeat (first | refine blk_drewN ?_ _ | refine blk_drew ?_ | refine blk_alloc ?_ _)); exact BK141.out⟩, ⟨by (with_reducible repeat (first | refine blk_drewN ?_ _ | refine blk_drew ?_ | refine blk_alloc ?_ _)); refine blk_far ?_ NB145_147.out _; (with_reducible repeat (first | refine blk_drewN ?_ _ | refine blk_drew ?_ | refine blk_alloc ?_ _)); exact BK145.out⟩, ⟨by (with_reducible repeat (first | refine blk_drewN ?_ _ | refine blk_drew ?_ | refine blk_alloc ?_ _)); refine blk_put (cs := #[u148000]) ?_ 0 _ rfl; (with_reducible repeat (first | refine blk_drewN ?_ _ | refine blk_drew ?_ | refine blk_alloc ?_ _)); exact BK147.out⟩, ⟨by repeat (first | (with_reducible first | exact HB.out | apply below_alloc | apply pw_below_drewN | apply below_drew1 | refine below_set ?_ GE141.out | refine below_set ?_ GE145.out | refine below_set ?_ GE147.out) | exact HB.out)⟩⟩
  rw [if_pos c48] at H
  have c48b0 := decide_eq_true c48
  clear c48
  by_cases c49 : 0 ≤ x58_3
  case neg => rw [if_neg c49] at H; exact absurd H (by simp)
  rw [if_pos c49] at H
  have c49b0 := decide_eq_true c49
  clear c49
  by_cases c50 : x58_3 < (t149.length : Int)
  case neg => rw [if_neg c50] at H; exact absurd H (by simp)
  rw [if_pos c50] at H
  have c50b0 := decide_eq_true c50
  clear c50
  obtain ⟨bq51, hbq51⟩ : ∃ b_ : Bool, b_ = (rdOf false t149 x58_3) := ⟨_, rfl⟩
  replace H : (if bq51 = true then (if x58_3 < (t152.length : Int) then (if rdOf false t152 x58_3 = true then (if x58_3 < (x146000_3.length : Int) then (if x11_3.length < 17592186044416 then (comps_Comps.l2 k3 t134 t138 (x11_3 ++ [x58_3]) t149 t152 t134 x43_2 t134 (wrap64 (x58_3 + 1)) t135 (x146000_3.set (x58_3 : Int).toNat (x148000_2.length : Int)) x148000_2) else (none)) else (none)) else (comps_Comps.l2 k3 t134 t138 x11_3 t149 t152 t134 x43_2 t134 (wrap64 (x58_3 + 1)) t135 x146000_3 x148000_2)) else (none)) else (comps_Comps.l2 k3 t134 t138 x11_3 t149 t152 t134 x43_2 t134 (wrap64 (x58_3 + 1)) t135 x146000_3 x148000_2)) = some r := by rw [← hbq51] at H; exact H
  have Nbq51 := Aside0.mk hbq51
  clear hbq51
  by_cases c52 : bq51 = true
  case neg =>
   replace c52 := Bool.eq_false_iff.mpr c52
   subst c52
   rw [if_neg (show ¬ (false = true) by decide)] at H
   have H' := Aside0.mk H
   clear H
   obtain ⟨Ao72, co72, eo72⟩ := Kd.R_slice HO_12.out
   subst eo72
   have p155 : 0 ≤ (x58_3 : Int) := of_decide_eq_true (by with_reducible assumption)
   have q155 : x58_3 < (t149.length : Int) := of_decide_eq_true (by with_reducible assumption)
   obtain ⟨ad155, e155, hx155_0⟩ := Kd.at_bool (Kd.R_reads' HO_12.out).2.2 x58_3 p155 q155
   (try rw [← Nbq51.out] at hx155_0)
   cases e155
   replace p155 := eq_true p155
   replace q155 := eq_true q155
   go_wp2
   repeat (go_step3; try go_wp2_with (fail))
   (try (simp only [Exit.noGoto_normal, Exit.noGoto_exit, Exit.noGoto_ret]; try go_wp2_with (fail)))
   go_roundg k3
   case measure => have := HK1.out; have := HK2.out; have := HK3.out; omega
   case rel => exact ⟨(x11_3), (wrap64 (x58_3 + 1)), (x146000_3), (u146000), (by first | rfl | (simp; done) | (simp [*]; done)), H', ⟨by have := HK1.out; have := HK2.out; have := HK3.out; omega⟩, ⟨by (with_reducible repeat (first | apply Kd.S_alloc | apply Kd.S_drewN | apply Kd.S_drew)); exact HO_6.out⟩, ⟨by (with_reducible repeat (first | apply Kd.R_alloc | apply Kd.R_drewN | apply Kd.R_drew)); exact HO_11.out⟩, ⟨by (with_reducible repeat (first | apply Kd.R_alloc | apply Kd.R_drewN | apply Kd.R_drew)); exact HO_12.out⟩, ⟨by (with_reducible repeat (first | apply Kd.R_alloc | apply Kd.R_drewN | apply Kd.R_drew)); exact HO_13.out⟩, ⟨by (with_reducible repeat (first | apply Kd.S_alloc | apply Kd.S_drewN | apply Kd.S_drew)); exact HO_142000.out⟩, ⟨by (with_reducible repeat (first | apply Kd.R_alloc | apply Kd.R_drewN | apply Kd.R_drew)); exact HO_146000.out⟩, ⟨by (with_reducible repeat (first | apply Kd.S_alloc | apply Kd.S_drewN | apply Kd.S_drew)); exact HO_148000.out⟩, ⟨by (with_reducible repeat (first | refine blk_drewN ?_ _ | refine blk_drew ?_ | refine blk_alloc ?_ _)); exact BK141.out⟩, ⟨by (with_reducible repeat (first | refine blk_drewN ?_ _ | refine blk_drew ?_ | refine blk_alloc ?_ _)); exact BK145.out⟩, ⟨by (with_reducible repeat (first | refine blk_drewN ?_ _ | refine blk_drew ?_ | refine blk_alloc ?_ _)); exact BK147.out⟩, ⟨by repeat (first | (with_reducible first | exact HB.out | apply below_alloc | apply pw_below_drewN | apply below_drew1 | refine below_set ?_ GE141.out | refine below_set ?_ GE145.out | refine below_set ?_ GE147.out) | exact HB.out)⟩⟩
  subst c52
  rw [if_pos rfl] at H
  by_cases c53 : x58_3 < (t152.length : Int)
  case neg => rw [if_neg c53] at H; exact absurd H (by simp)
  rw [if_pos c53] at H
  have c53b0 := decide_eq_true c53
  clear c53
  obtain ⟨bq54, hbq54⟩ : ∃ b_ : Bool, b_ = (rdOf false t152 x58_3) := ⟨_, rfl⟩
  replace H : (if bq54 = true then (if x58_3 < (x146000_3.length : Int) then (if x11_3.length < 17592186044416 then (comps_Comps.l2 k3 t134 t138 (x11_3 ++ [x58_3]) t149 t152 t134 x43_2 t134 (wrap64 (x58_3 + 1)) t135 (x146000_3.set (x58_3 : Int).toNat (x148000_2.length : Int)) x148000_2) else (none)) else (none)) else (comps_Comps.l2 k3 t134 t138 x11_3 t149 t152 t134 x43_2 t134 (wrap64 (x58_3 + 1)) t135 x146000_3 x148000_2)) = some r := by rw [← hbq54] at H; exact H
  have Nbq54 := Aside0.mk hbq54
  clear hbq54
  by_cases c55 : bq54 = true
  case neg =>
   replace c55 := Bool.eq_false_iff.mpr c55
   subst c55
   rw [if_neg (show ¬ (false = true) by decide)] at H
   have H' := Aside0.mk H
   clear H
   obtain ⟨Ao70, co70, eo70⟩ := Kd.R_slice HO_12.out
   subst eo70
   have p155 : 0 ≤ (x58_3 : Int) := of_decide_eq_true (by with_reducible assumption)
   have q155 : x58_3 < (t149.length : Int) := of_decide_eq_true (by with_reducible assumption)
   obtain ⟨ad155, e155, hx155_0⟩ := Kd.at_bool (Kd.R_reads' HO_12.out).2.2 x58_3 p155 q155
   (try rw [← Nbq51.out] at hx155_0)
   (try rw [← Nbq54.out] at hx155_0)
   cases e155
   replace p155 := eq_true p155
   replace q155 := eq_true q155
   obtain ⟨Ao71, co71, eo71⟩ := Kd.R_slice HO_13.out
   subst eo71
   have p156 : 0 ≤ (x58_3 : Int) := of_decide_eq_true (by with_reducible assumption)
   have q156 : x58_3 < (t152.length : Int) := of_decide_eq_true (by with_reducible assumption)
   obtain ⟨ad156, e156, hx156_0⟩ := Kd.at_bool (Kd.R_reads' HO_13.out).2.2 x58_3 p156 q156
   (try rw [← Nbq51.out] at hx156_0)
   (try rw [← Nbq54.out] at hx156_0)
   cases e156
   replace p156 := eq_true p156
   replace q156 := eq_true q156
   go_wp2
   repeat (go_step3; try go_wp2_with (fail))
   (try (simp only [Exit.noGoto_normal, Exit.noGoto_exit, Exit.noGoto_ret]; try go_wp2_with (fail)))
   go_roundg k3
   case measure => have := HK1.out; have := HK2.out; have := HK3.out; omega
   case rel => exact ⟨(x11_3), (wrap64 (x58_3 + 1)), (x146000_3), (u146000), (by first | rfl | (simp; done) | (simp [*]; done)), H', ⟨by have := HK1.out; have := HK2.out; have := HK3.out; omega⟩, ⟨by (with_reducible repeat (first | apply Kd.S_alloc | apply Kd.S_drewN | apply Kd.S_drew)); exact HO_6.out⟩, ⟨by (with_reducible repeat (first | apply Kd.R_alloc | apply Kd.R_drewN | apply Kd.R_drew)); exact HO_11.out⟩, ⟨by (with_reducible repeat (first | apply Kd.R_alloc | apply Kd.R_drewN | apply Kd.R_drew)); exact HO_12.out⟩, ⟨by (with_reducible repeat (first | apply Kd.R_alloc | apply Kd.R_drewN | apply Kd.R_drew)); exact HO_13.out⟩, ⟨by (with_reducible repeat (first | apply Kd.S_alloc | apply Kd.S_drewN | apply Kd.S_drew)); exact HO_142000.out⟩, ⟨by (with_reducible repeat (first | apply Kd.R_alloc | apply Kd.R_drewN | apply Kd.R_drew)); exact HO_146000.out⟩, ⟨by (with_reducible repeat (first | apply Kd.S_alloc | apply Kd.S_drewN | apply Kd.S_drew)); exact HO_148000.out⟩, ⟨by (with_reducible repeat (first | refine blk_drewN ?_ _ | refine blk_drew ?_ | refine blk_alloc ?_ _)); exact BK141.out⟩, ⟨by (with_reducible repeat (first | refine blk_drewN ?_ _ | refine blk_drew ?_ | refine blk_alloc ?_ _)); exact BK145.out⟩, ⟨by (with_reducible repeat (first | refine blk_drewN ?_ _ | refine blk_drew ?_ | refine blk_alloc ?_ _)); exact BK147.out⟩, ⟨by repeat (first | (with_reducible first | exact HB.out | apply below_alloc | apply pw_below_drewN | apply below_drew1 | refine below_set ?_ GE141.out | refine below_set ?_ GE145.out | refine below_set ?_ GE147.out) | exact HB.out)⟩⟩
  subst c55
  rw [if_pos rfl] at H
  by_cases c56 : x58_3 < (x146000_3.length : Int)
  case neg => rw [if_neg c56] at H; exact absurd H (by simp)
  rw [if_pos c56] at H
  have c56b0 := decide_eq_true c56
  clear c56
  obtain ⟨y157, hy157⟩ : ∃ y_ : List Int, y_ = (x146000_3.set (x58_3 : Int).toNat (x148000_2.length : Int)) := ⟨_, rfl⟩
  replace H : (if x11_3.length < 17592186044416 then (comps_Comps.l2 k3 t134 t138 (x11_3 ++ [x58_3]) t149 t152 t134 x43_2 t134 (wrap64 (x58_3 + 1)) t135 y157 x148000_2) else (none)) = some r := by first | (rw [hy157]; with_reducible exact H) | (have H2_ := (Option.bind_some _ _).symm.trans H; rw [hy157]; with_reducible exact H2_) | (have H2_ := (Option.bind_some _ _).symm.trans H; with_reducible exact H2_) | with_reducible exact H | (rw [hy157]; exact H) | exact H
  have Ny157 := Aside0.mk hy157
  clear hy157
  by_cases c58 : x11_3.length < 17592186044416
  case neg => rw [if_neg c58] at H; exact absurd H (by simp)
  rw [if_pos c58] at H
  have LMc58 := Aside0.mk c58
  clear c58
  obtain ⟨y158, hy158⟩ : ∃ y_ : List Int, y_ = (x11_3 ++ [x58_3]) := ⟨_, rfl⟩
  replace H : (comps_Comps.l2 k3 t134 t138 y158 t149 t152 t134 x43_2 t134 (wrap64 (x58_3 + 1)) t135 y157 x148000_2) = some r := by first | (rw [hy158]; with_reducible exact H) | (have H2_ := (Option.bind_some _ _).symm.trans H; rw [hy158]; with_reducible exact H2_) | (have H2_ := (Option.bind_some _ _).symm.trans H; with_reducible exact H2_) | with_reducible exact H | (rw [hy158]; exact H) | exact H
  have Ny158 := Aside0.mk hy158
  clear hy158
  have H' := Aside0.mk H
  clear H
  obtain ⟨Ao59, co59, eo59⟩ := Kd.R_slice HO_12.out
  subst eo59
  have p155 : 0 ≤ (x58_3 : Int) := of_decide_eq_true (by with_reducible assumption)
  have q155 : x58_3 < (t149.length : Int) := of_decide_eq_true (by with_reducible assumption)
  obtain ⟨ad155, e155, hx155_0⟩ := Kd.at_bool (Kd.R_reads' HO_12.out).2.2 x58_3 p155 q155
  (try rw [← Nbq51.out] at hx155_0)
  (try rw [← Nbq54.out] at hx155_0)
  cases e155
  replace p155 := eq_true p155
  replace q155 := eq_true q155
  obtain ⟨Ao60, co60, eo60⟩ := Kd.R_slice HO_13.out
  subst eo60
  have p156 : 0 ≤ (x58_3 : Int) := of_decide_eq_true (by with_reducible assumption)
  have q156 : x58_3 < (t152.length : Int) := of_decide_eq_true (by with_reducible assumption)
  obtain ⟨ad156, e156, hx156_0⟩ := Kd.at_bool (Kd.R_reads' HO_13.out).2.2 x58_3 p156 q156
  (try rw [← Nbq51.out] at hx156_0)
  (try rw [← Nbq54.out] at hx156_0)
  cases e156
  replace p156 := eq_true p156
  replace q156 := eq_true q156
  have hnb61 := NB145_141.out
  have hnc61 := NB141_145.out
  have hnb62 := NB145_147.out
  have hnc62 := NB147_145.out
  have hcz63_0 : wr.cell? ⟨gb145, 0, none⟩ = some (u146000) := (blk_cell BK145.out 0).trans rfl
  have hfz63_0 := blk_frozen BK145.out 0
  have hnb64 := NB147_141.out
  have hnc64 := NB141_147.out
  have hcz65_0 : wr.cell? ⟨gb147, 0, none⟩ = some (u148000) := (blk_cell BK147.out 0).trans rfl
  have hfz65_0 := blk_frozen BK147.out 0
  obtain ⟨Ao66, co66, eo66⟩ := Kd.S_slice HO_148000.out
  subst eo66
  have p57 : 0 ≤ (x58_3 : Int) := of_decide_eq_true (by with_reducible assumption)
  have q57 : (x58_3 : Int) < ((x146000_3.length : Int) : Int) := of_decide_eq_true (by with_reducible assumption)
  obtain ⟨go57, co57, eo57, gb57, gl57, cl57, HG57⟩ := Kd.R_form HO_146000.out (by omega)
  (first | cases eo57 | (injection eo57 with ea_ en_ ec_; (first | subst ea_ | (injection ea_ with ea_; subst ea_)); subst ec_; clear en_))
  have GB57 := Aside0.mk gb57
  have GG57 := Aside0.mk HG57
  clear gb57 gl57 HG57
  obtain ⟨hx57_0, hf57_0⟩ := Kd.R_celln 0 HO_146000.out (x58_3 : Int) p57 q57
  replace p57 := eq_true p57
  replace q57 := eq_true q57
  have HP67 := Kd.R_putg HO_146000.out (x58_3 : Int) (x148000_2.length : Int)
  go_wp2_with (first | ((with_reducible refine gate_store (t := 3) (p := 75) rfl ?_); refine store_event (t := 3) (p := 75) (v := ?vo_w68) (w1 := (wr.setCell ⟨go57, (x58_3 : Int).toNat, none⟩ (.int .i64 (x148000_2.length : Int)))) ?hg ?ho ?hn ?hr ?_; (case ho => rfl); (case hg => rfl); (case hn => rfl); (case hr => first | (go_simp; done) | (go_simp; rfl)); intro w68 hw; have hg : wr.grownBy w68 (some go57) := (by rw [hw]; exact HP67.2); have hp_ : Kd.R (Kd.int .i64) 3 w68 w.heap.size (fun k_ => some k_ ≠ (u11 : Value).ownBlock) (.slice (some ⟨go57, 0, none⟩) x146000_3.length co57) y157 := (by rw [hw, Ny157.out]; exact HP67.1); clear HP67; have n0_ := Aside0.mk (Kd.S_after (v := (.slice (some ⟨go57, 0, none⟩) x146000_3.length co57)) (v1 := (.slice (some ⟨go57, 0, none⟩) x146000_3.length co57)) (ok := (fun k_ => some k_ ≠ (u11 : Value).ownBlock ∧ some k_ ≠ (.slice Ao12 t135.length co12 : Value).ownBlock ∧ some k_ ≠ (.slice Ao66 x148000_2.length co66 : Value).ownBlock ∧ k_ ≠ gb145)) (by (with_reducible repeat (first | apply Kd.S_alloc | apply Kd.S_drewN | apply Kd.S_drew)); exact Kd.S_mono HO_6.out (fun _ hk => ⟨⟨hk.1, ⟨hk.2.1, ⟨hk.2.2.2.1, hk.2.2.2.2⟩⟩⟩, hk.2.2.1⟩)) hg (.inl rfl)); have n1_ := Aside0.mk (Kd.R_after (v := (.slice (some ⟨go57, 0, none⟩) x146000_3.length co57)) (v1 := (.slice (some ⟨go57, 0, none⟩) x146000_3.length co57)) (ok := (fun _ => True)) (by (with_reducible repeat (first | apply Kd.R_alloc | apply Kd.R_drewN | apply Kd.R_drew)); exact Kd.R_mono HO_11.out (fun _ hk => ⟨trivial, hk⟩)) hg (.inl rfl)); have n2_ := Aside0.mk (Kd.R_over' (v := (.slice (some ⟨go57, 0, none⟩) x146000_3.length co57)) (by (with_reducible repeat (first | apply Kd.R_alloc | apply Kd.R_drewN | apply Kd.R_drew)); exact HO_12.out) (Kd.R_typed HO_146000.out) (by decide) hg); have n3_ := Aside0.mk (Kd.R_over' (v := (.slice (some ⟨go57, 0, none⟩) x146000_3.length co57)) (by (with_reducible repeat (first | apply Kd.R_alloc | apply Kd.R_drewN | apply Kd.R_drew)); exact HO_13.out) (Kd.R_typed HO_146000.out) (by decide) hg); have n4_ := Aside0.mk (Kd.S_after (v := (.slice (some ⟨go57, 0, none⟩) x146000_3.length co57)) (v1 := (.slice (some ⟨go57, 0, none⟩) x146000_3.length co57)) (ok := (fun k_ => some k_ ≠ (.slice Ao46 t138.length co46 : Value).ownBlock ∧ some k_ ≠ (u11 : Value).ownBlock ∧ some k_ ≠ (.slice Ao66 x148000_2.length co66 : Value).ownBlock ∧ k_ ≠ gb145)) (by (with_reducible repeat (first | apply Kd.S_alloc | apply Kd.S_drewN | apply Kd.S_drew)); exact Kd.S_mono HO_142000.out (fun _ hk => ⟨⟨hk.1, ⟨hk.2.1, ⟨hk.2.2.2.1, hk.2.2.2.2⟩⟩⟩, hk.2.2.1⟩)) hg (.inl rfl)); have n5_ := Aside0.mk (hp_); have n6_ := Aside0.mk (Kd.S_after (v := (.slice (some ⟨go57, 0, none⟩) x146000_3.length co57)) (v1 := (.slice (some ⟨go57, 0, none⟩) x146000_3.length co57)) (ok := (fun k_ => some k_ ≠ (.slice Ao46 t138.length co46 : Value).ownBlock ∧ some k_ ≠ (u11 : Value).ownBlock ∧ some k_ ≠ (.slice Ao12 t135.length co12 : Value).ownBlock ∧ k_ ≠ gb145)) (by (with_reducible repeat (first | apply Kd.S_alloc | apply Kd.S_drewN | apply Kd.S_drew)); exact Kd.S_mono HO_148000.out (fun _ hk => ⟨⟨hk.1, ⟨hk.2.1, ⟨hk.2.2.1, hk.2.2.2.2⟩⟩⟩, hk.2.2.2.1⟩)) hg (.inl rfl)); have n7_ := Aside0.mk (blk_grown (g := gb141) (o := .cells #[.slice Ao12 t135.length co12] 63 (0, 0)) (by (with_reducible repeat (first | refine blk_drewN ?_ _ | refine blk_drew ?_ | refine blk_alloc ?_ _)); exact BK141.out) hg (Kd.R_ne HO_146000.out BK141.out (by decide))); have n8_ := Aside0.mk (blk_grown (g := gb145) (o := .cells #[.slice (some ⟨go57, 0, none⟩) x146000_3.length co57] 56 (0, 0)) (by (with_reducible repeat (first | refine blk_drewN ?_ _ | refine blk_drew ?_ | refine blk_alloc ?_ _)); exact BK145.out) hg (Kd.R_ne HO_146000.out BK145.out (by decide))); have n9_ := Aside0.mk (blk_grown (g := gb147) (o := .cells #[.slice Ao66 x148000_2.length co66] 63 (0, 0)) (by (with_reducible repeat (first | refine blk_drewN ?_ _ | refine blk_drew ?_ | refine blk_alloc ?_ _)); exact BK147.out) hg (Kd.R_ne HO_146000.out BK147.out (by decide))); have n10_ := Aside0.mk ((by rw [hw]; exact below_set (HB.out) GB57.out : Below w.heap.size w w68)); clear HO_6; clear HO_11; clear HO_12; clear HO_13; clear HO_142000; clear HO_146000; clear HO_148000; clear BK141; clear BK145; clear BK147; clear HB; have HO_6 := n0_; have HO_11 := n1_; have HO_12 := n2_; have HO_13 := n3_; have HO_142000 := n4_; have HO_146000 := n5_; have HO_148000 := n6_; have BK141 := n7_; have BK145 := n8_; have BK147 := n9_; have HB := n10_; clear n0_ n1_ n2_ n3_ n4_ n5_ n6_ n7_ n8_ n9_ n10_; clear hg hw hp_) | ((with_reducible refine gate_builtin (b := .append) (xs := #[.tmp 76, .tmp 78]) rfl ?_); at_builtin; refine Kd.R_append (Kd.int .i64) (w0 := w) w.heap.size rfl (.tmp 76) (.tmp 78) 56 3 (.int .i64 0) 8 rfl Try.underlying56 info3 rfl (by decide) (by omega) u11 x11_3 x58_3 [.int .i64 x58_3] (fun k_ => some k_ ≠ (.slice (some ⟨go57, 0, none⟩) x146000_3.length co57 : Value).ownBlock) (fun _ => False) rfl rfl ?aP (fun _ hk => hk.elim) ?aF ?aO ?aB ?aS ?aL ?_; (case aP => exact rfl); (case aB => exact (by repeat (first | (with_reducible first | exact HB.out | apply below_alloc | apply pw_below_drewN | apply below_drew1 | refine below_set ?_ GE141.out | refine below_set ?_ GE145.out | refine below_set ?_ GE147.out) | exact HB.out))); (case aF => exact (fun k_ hk => Kd.fresh' (Kd.R_lt (by (with_reducible repeat (first | apply Kd.R_alloc | apply Kd.R_drewN | apply Kd.R_drew)); exact HO_146000.out)) k_ hk)); (case aO => exact (by (with_reducible repeat (first | apply Kd.R_alloc | apply Kd.R_drewN | apply Kd.R_drew)); exact Kd.R_mono HO_11.out (fun _ hk => hk.2))); (case aS => exact (below_size (by repeat (first | (with_reducible first | exact HB.out | apply below_alloc | apply pw_below_drewN | apply below_drew1 | refine below_set ?_ GE141.out | refine below_set ?_ GE145.out | refine below_set ?_ GE147.out) | exact HB.out)))); (case aL => have := LMc58.out; omega); intro v159 w69 ho hb hg hat; rw [← Ny158.out] at ho; have n0_ := Aside0.mk (Kd.S_after (ok := (fun k_ => some k_ ≠ (.slice Ao12 t135.length co12 : Value).ownBlock ∧ some k_ ≠ (.slice (some ⟨go57, 0, none⟩) x146000_3.length co57 : Value).ownBlock ∧ some k_ ≠ (.slice Ao66 x148000_2.length co66 : Value).ownBlock ∧ k_ ≠ gb145)) (by (with_reducible repeat (first | apply Kd.S_alloc | apply Kd.S_drewN | apply Kd.S_drew)); exact Kd.S_mono HO_6.out (fun _ hk => ⟨⟨hk.1.2.1, ⟨hk.2, ⟨hk.1.2.2.1, hk.1.2.2.2⟩⟩⟩, hk.1.1⟩)) hg hat); have n1_ := Aside0.mk (Kd.R_over' (by (with_reducible repeat (first | apply Kd.R_alloc | apply Kd.R_drewN | apply Kd.R_drew)); exact HO_12.out) (Kd.R_typed (by (with_reducible repeat (first | apply Kd.R_alloc | apply Kd.R_drewN | apply Kd.R_drew)); exact HO_11.out)) (by decide) hg); have n2_ := Aside0.mk (Kd.R_over' (by (with_reducible repeat (first | apply Kd.R_alloc | apply Kd.R_drewN | apply Kd.R_drew)); exact HO_13.out) (Kd.R_typed (by (with_reducible repeat (first | apply Kd.R_alloc | apply Kd.R_drewN | apply Kd.R_drew)); exact HO_11.out)) (by decide) hg); have n3_ := Aside0.mk (Kd.S_after (ok := (fun k_ => some k_ ≠ (.slice Ao46 t138.length co46 : Value).ownBlock ∧ some k_ ≠ (.slice (some ⟨go57, 0, none⟩) x146000_3.length co57 : Value).ownBlock ∧ some k_ ≠ (.slice Ao66 x148000_2.length co66 : Value).ownBlock ∧ k_ ≠ gb145)) (by (with_reducible repeat (first | apply Kd.S_alloc | apply Kd.S_drewN | apply Kd.S_drew)); exact Kd.S_mono HO_142000.out (fun _ hk => ⟨⟨hk.1.1, ⟨hk.2, ⟨hk.1.2.2.1, hk.1.2.2.2⟩⟩⟩, hk.1.2.1⟩)) hg hat); have n4_ := Aside0.mk (Kd.R_after (ok := (fun _ => True)) (by (with_reducible repeat (first | apply Kd.R_alloc | apply Kd.R_drewN | apply Kd.R_drew)); exact Kd.R_mono HO_146000.out (fun _ hk => ⟨trivial, hk⟩)) hg hat); have n5_ := Aside0.mk (Kd.S_after (ok := (fun k_ => some k_ ≠ (.slice Ao46 t138.length co46 : Value).ownBlock ∧ some k_ ≠ (.slice Ao12 t135.length co12 : Value).ownBlock ∧ some k_ ≠ (.slice (some ⟨go57, 0, none⟩) x146000_3.length co57 : Value).ownBlock ∧ k_ ≠ gb145)) (by (with_reducible repeat (first | apply Kd.S_alloc | apply Kd.S_drewN | apply Kd.S_drew)); exact Kd.S_mono HO_148000.out (fun _ hk => ⟨⟨hk.1.1, ⟨hk.1.2.2.1, ⟨hk.2, hk.1.2.2.2⟩⟩⟩, hk.1.2.1⟩)) hg hat); have n6_ := Aside0.mk (blk_grown (g := gb141) (o := .cells #[.slice Ao12 t135.length co12] 63 (0, 0)) (by (with_reducible repeat (first | refine blk_drewN ?_ _ | refine blk_drew ?_ | refine blk_alloc ?_ _)); exact BK141.out) hg (Kd.R_ne HO_11.out BK141.out (by decide))); have n7_ := Aside0.mk (blk_grown (g := gb145) (o := .cells #[.slice (some ⟨go57, 0, none⟩) x146000_3.length co57] 56 (0, 0)) (by (with_reducible repeat (first | refine blk_drewN ?_ _ | refine blk_drew ?_ | refine blk_alloc ?_ _)); exact BK145.out) hg (Kd.R_ne HO_11.out BK145.out (by decide))); have n8_ := Aside0.mk (blk_grown (g := gb147) (o := .cells #[.slice Ao66 x148000_2.length co66] 63 (0, 0)) (by (with_reducible repeat (first | refine blk_drewN ?_ _ | refine blk_drew ?_ | refine blk_alloc ?_ _)); exact BK147.out) hg (Kd.R_ne HO_11.out BK147.out (by decide))); have n9_ := Aside0.mk (hb); have n10_ := Aside0.mk (ho); clear HO_6; clear HO_12; clear HO_13; clear HO_142000; clear HO_146000; clear HO_148000; clear BK141; clear BK145; clear BK147; clear HB; clear HO_11; have HO_6 := n0_; have HO_12 := n1_; have HO_13 := n2_; have HO_142000 := n3_; have HO_146000 := n4_; have HO_148000 := n5_; have BK141 := n6_; have BK145 := n7_; have BK147 := n8_; have HB := n9_; have HO160 := n10_; clear n0_ n1_ n2_ n3_ n4_ n5_ n6_ n7_ n8_ n9_ n10_; clear ho hb hg hat))
  repeat (go_step3; try go_wp2_with (fail))
  (try (simp only [Exit.noGoto_normal, Exit.noGoto_exit, Exit.noGoto_ret]; try go_wp2_with (fail)))
  go_roundg k3
  case measure => have := HK1.out; have := HK2.out; have := HK3.out; omega
  case rel => exact ⟨(y158), (wrap64 (x58_3 + 1)), (y157), (.slice (some ⟨go57, 0, none⟩) x146000_3.length co57), (by first | rfl | (simp; done) | (simp [*]; done)), H', ⟨by have := HK1.out; have := HK2.out; have := HK3.out; omega⟩, ⟨by (with_reducible repeat (first | apply Kd.S_alloc | apply Kd.S_drewN | apply Kd.S_drew)); exact Kd.S_mono HO_6.out (fun _ hk => ⟨hk.2, ⟨hk.1.1, ⟨hk.1.2.1, ⟨hk.1.2.2.1, hk.1.2.2.2⟩⟩⟩⟩)⟩, ⟨by (with_reducible repeat (first | apply Kd.R_alloc | apply Kd.R_drewN | apply Kd.R_drew)); exact HO160.out⟩, ⟨by (with_reducible repeat (first | apply Kd.R_alloc | apply Kd.R_drewN | apply Kd.R_drew)); exact HO_12.out⟩, ⟨by (with_reducible repeat (first | apply Kd.R_alloc | apply Kd.R_drewN | apply Kd.R_drew)); exact HO_13.out⟩, ⟨by (with_reducible repeat (first | apply Kd.S_alloc | apply Kd.S_drewN | apply Kd.S_drew)); exact Kd.S_mono HO_142000.out (fun _ hk => ⟨hk.1.1, ⟨hk.2, ⟨hk.1.2.1, ⟨hk.1.2.2.1, hk.1.2.2.2⟩⟩⟩⟩)⟩, ⟨by (with_reducible repeat (first | apply Kd.R_alloc | apply Kd.R_drewN | apply Kd.R_drew)); exact Kd.R_mono HO_146000.out (fun _ hk => hk.2)⟩, ⟨by (with_reducible repeat (first | apply Kd.S_alloc | apply Kd.S_drewN | apply Kd.S_drew)); exact Kd.S_mono HO_148000.out (fun _ hk => ⟨hk.1.1, ⟨hk.2, ⟨hk.1.2.1, ⟨hk.1.2.2.1, hk.1.2.2.2⟩⟩⟩⟩)⟩, ⟨by (with_reducible repeat (first | refine blk_drewN ?_ _ | refine blk_drew ?_ | refine blk_alloc ?_ _)); exact BK141.out⟩, ⟨by (with_reducible repeat (first | refine blk_drewN ?_ _ | refine blk_drew ?_ | refine blk_alloc ?_ _)); exact BK145.out⟩, ⟨by (with_reducible repeat (first | refine blk_drewN ?_ _ | refine blk_drew ?_ | refine blk_alloc ?_ _)); exact BK147.out⟩, ⟨by repeat (first | (with_reducible first | exact HB.out | apply below_alloc | apply pw_below_drewN | apply below_drew1 | refine below_set ?_ GE141.out | refine below_set ?_ GE145.out | refine below_set ?_ GE147.out) | exact HB.out)⟩⟩
 rw [if_neg c29] at H
 have c29b0 := decide_eq_false c29
 clear c29
 by_cases c81 : 0 ≤ (x148000_2.length : Int)
 case neg => rw [if_neg c81] at H; exact absurd H (by simp)
 rw [if_pos c81] at H
 have c81b0 := eq_true c81
 have c81b1 := decide_eq_true c81
 clear c81
 by_cases c82 : ((x148000_2.length : Int) : Int).toNat ≤ 35184372088832
 case neg => rw [if_neg c82] at H; exact absurd H (by simp)
 rw [if_pos c82] at H
 have c82b0 := eq_true c82
 have c82b1 := decide_eq_true c82
 clear c82
 obtain ⟨y164, hy164⟩ : ∃ y_ : List Int, y_ = (List.replicate ((x148000_2.length : Int) : Int).toNat 0) := ⟨_, rfl⟩
 replace H : (comps_Comps.l3 k2 t134 (y164.length : Int) 0 t135 x146000_2 x148000_2 y164) = some r := by first | (rw [hy164]; with_reducible exact H) | (have H2_ := (Option.bind_some _ _).symm.trans H; rw [hy164]; with_reducible exact H2_) | (have H2_ := (Option.bind_some _ _).symm.trans H; with_reducible exact H2_) | with_reducible exact H | (rw [hy164]; exact H) | exact H
 have Ny164 := Aside0.mk hy164
 clear hy164
 have H' := Aside0.mk H
 clear H
 have hnb83 := NB147_141.out
 have hnc83 := NB141_147.out
 have hnb84 := NB147_145.out
 have hnc84 := NB145_147.out
 have hcz85_0 : wr.cell? ⟨gb147, 0, none⟩ = some (u148000) := (blk_cell BK147.out 0).trans rfl
 have hfz85_0 := blk_frozen BK147.out 0
 obtain ⟨Ao86, co86, eo86⟩ := Kd.S_slice HO_148000.out
 subst eo86
 go_wp2_with (first | ((with_reducible refine gate_dst (N := 88) rfl ?_); refine Kd.R_make (Kd.int .i64) _ 3 rfl (N := 88) rfl 56 _ _ rfl (x148000_2.length : Int) rfl rfl Try.underlying56 (.int .i64 0) 8 info3 rfl (by decide) (by omega) 0 (ok := fun _ => True) (okp := fun _ => True) rfl (fun _ hk => hk) trivial (of_decide_eq_true (by with_reducible assumption)) (Nat.le_trans (Nat.mul_le_mul_right _ (of_decide_eq_true (by with_reducible assumption) : (x148000_2.length : Int).toNat ≤ 35184372088832)) (by omega)) (Below.refl _ _) (Nat.le_refl _) ?_; intro v165 w87 ho88 hb hg_ hnew_; clear hg_ hnew_; (first | rw [← Ny164.out] at ho88 | (simp only [Int.reduceToNat] at ho88; rw [← Ny164.out] at ho88)); have n0_ := Aside0.mk (Kd.S_elder' (by (with_reducible repeat (first | apply Kd.S_alloc | apply Kd.S_drewN | apply Kd.S_drew)); exact HO_6.out) (Kd.R_base ho88) hb); have n1_ := Aside0.mk (Kd.S_elder' (by (with_reducible repeat (first | apply Kd.S_alloc | apply Kd.S_drewN | apply Kd.S_drew)); exact HO_142000.out) (Kd.R_base ho88) hb); have n2_ := Aside0.mk (Kd.R_elder' (by (with_reducible repeat (first | apply Kd.R_alloc | apply Kd.R_drewN | apply Kd.R_drew)); exact HO_146000.out) (Kd.R_base ho88) hb); have n3_ := Aside0.mk (Kd.S_elder' (by (with_reducible repeat (first | apply Kd.S_alloc | apply Kd.S_drewN | apply Kd.S_drew)); exact HO_148000.out) (Kd.R_base ho88) hb); have n4_ := Aside0.mk (Kd.R_lower (Kd.R_new' ho88 (Kd.R_lt (by (with_reducible repeat (first | apply Kd.R_alloc | apply Kd.R_drewN | apply Kd.R_drew)); exact HO_146000.out))) (below_size (by repeat (first | (with_reducible first | exact HB.out | apply below_alloc | apply pw_below_drewN | apply below_drew1 | refine below_set ?_ GE141.out | refine below_set ?_ GE145.out | refine below_set ?_ GE147.out) | exact HB.out)))); have n5_ := Aside0.mk (blk_below (g := gb141) (o := .cells #[.slice Ao12 t135.length co12] 63 (0, 0)) (by (with_reducible repeat (first | refine blk_drewN ?_ _ | refine blk_drew ?_ | refine blk_alloc ?_ _)); exact BK141.out) hb); have n6_ := Aside0.mk (blk_below (g := gb145) (o := .cells #[u146000] 56 (0, 0)) (by (with_reducible repeat (first | refine blk_drewN ?_ _ | refine blk_drew ?_ | refine blk_alloc ?_ _)); exact BK145.out) hb); have n7_ := Aside0.mk (blk_below (g := gb147) (o := .cells #[.slice Ao86 x148000_2.length co86] 63 (0, 0)) (by (with_reducible repeat (first | refine blk_drewN ?_ _ | refine blk_drew ?_ | refine blk_alloc ?_ _)); exact BK147.out) hb); have n8_ := Aside0.mk (below_step (by repeat (first | (with_reducible first | exact HB.out | apply below_alloc | apply pw_below_drewN | apply below_drew1 | refine below_set ?_ GE141.out | refine below_set ?_ GE145.out | refine below_set ?_ GE147.out) | exact HB.out)) hb); clear HO_6; clear HO_142000; clear HO_146000; clear HO_148000; clear BK141; clear BK145; clear BK147; clear HB; have HO_6 := n0_; have HO_142000 := n1_; have HO_146000 := n2_; have HO_148000 := n3_; have HO166 := n4_; have BK141 := n5_; have BK145 := n6_; have BK147 := n7_; have HB := n8_; clear n0_ n1_ n2_ n3_ n4_ n5_ n6_ n7_ n8_; clear hb ho88) | ((with_reducible refine gate_dst (N := 15) rfl ?_); refine box_event ?hg (N := 15) ?hd (cs := #[.slice none 0 0]) (t := 56) ?hr ?_; (case hd => rfl); (case hg => rfl); (case hr => first | (go_simp; done) | (go_simp; rfl)); intro gb167 hg w89 hbox hb; have n0_ := Aside0.mk (Kd.S_below (Kd.S_elderB (by (with_reducible repeat (first | apply Kd.S_alloc | apply Kd.S_drewN | apply Kd.S_drew)); exact HO_6.out) gb167 (Nat.le_of_eq hg.symm)) hb); have n1_ := Aside0.mk (Kd.S_below (Kd.S_elderB (by (with_reducible repeat (first | apply Kd.S_alloc | apply Kd.S_drewN | apply Kd.S_drew)); exact HO_142000.out) gb167 (Nat.le_of_eq hg.symm)) hb); have n2_ := Aside0.mk (Kd.R_below (by (with_reducible repeat (first | apply Kd.R_alloc | apply Kd.R_drewN | apply Kd.R_drew)); exact HO_146000.out) hb); have n3_ := Aside0.mk (Kd.S_below (Kd.S_elderB (by (with_reducible repeat (first | apply Kd.S_alloc | apply Kd.S_drewN | apply Kd.S_drew)); exact HO_148000.out) gb167 (Nat.le_of_eq hg.symm)) hb); have n4_ := Aside0.mk (Kd.R_below (by (with_reducible repeat (first | apply Kd.R_alloc | apply Kd.R_drewN | apply Kd.R_drew)); exact HO166.out) hb); have n5_ := Aside0.mk (blk_below (g := gb141) (o := .cells #[.slice Ao12 t135.length co12] 63 (0, 0)) (by (with_reducible repeat (first | refine blk_drewN ?_ _ | refine blk_drew ?_ | refine blk_alloc ?_ _)); exact BK141.out) hb); have n6_ := Aside0.mk (blk_below (g := gb145) (o := .cells #[u146000] 56 (0, 0)) (by (with_reducible repeat (first | refine blk_drewN ?_ _ | refine blk_drew ?_ | refine blk_alloc ?_ _)); exact BK145.out) hb); have n7_ := Aside0.mk (blk_below (g := gb147) (o := .cells #[.slice Ao86 x148000_2.length co86] 63 (0, 0)) (by (with_reducible repeat (first | refine blk_drewN ?_ _ | refine blk_drew ?_ | refine blk_alloc ?_ _)); exact BK147.out) hb); have n8_ := Aside0.mk (below_step (by repeat (first | (with_reducible first | exact HB.out | apply below_alloc | apply pw_below_drewN | apply below_drew1 | refine below_set ?_ GE141.out | refine below_set ?_ GE145.out | refine below_set ?_ GE147.out) | exact HB.out)) hb); have n9_ := Aside0.mk (hbox); have n10_ := Aside0.mk ((by rw [hg]; exact (below_size (by repeat (first | (with_reducible first | exact HB.out | apply below_alloc | apply pw_below_drewN | apply below_drew1 | refine below_set ?_ GE141.out | refine below_set ?_ GE145.out | refine below_set ?_ GE147.out) | exact HB.out))) : w.heap.size ≤ gb167)); have n11_ := Aside0.mk ((by rw [hg]; exact (below_size (by repeat (first | (with_reducible first | exact HB.out | apply below_alloc | apply pw_below_drewN | apply below_drew1 | refine below_set ?_ GE141.out | refine below_set ?_ GE145.out | refine below_set ?_ GE147.out) | exact HB.out))) : w.heap.size ≤ gb167)); have n12_ := Aside0.mk ((by rw [hg]; exact Nat.ne_of_lt (blk_lt (g := gb141) (o := .cells #[.slice Ao12 t135.length co12] 63 (0, 0)) (by (with_reducible repeat (first | refine blk_drewN ?_ _ | refine blk_drew ?_ | refine blk_alloc ?_ _)); exact BK141.out)) : gb141 ≠ gb167)); have n13_ := Aside0.mk ((by rw [hg]; exact Nat.ne_of_gt (blk_lt (g := gb141) (o := .cells #[.slice Ao12 t135.length co12] 63 (0, 0)) (by (with_reducible repeat (first | refine blk_drewN ?_ _ | refine blk_drew ?_ | refine blk_alloc ?_ _)); exact BK141.out)) : gb167 ≠ gb141)); have n14_ := Aside0.mk ((by rw [hg]; exact Nat.ne_of_lt (blk_lt (g := gb145) (o := .cells #[u146000] 56 (0, 0)) (by (with_reducible repeat (first | refine blk_drewN ?_ _ | refine blk_drew ?_ | refine blk_alloc ?_ _)); exact BK145.out)) : gb145 ≠ gb167)); have n15_ := Aside0.mk ((by rw [hg]; exact Nat.ne_of_gt (blk_lt (g := gb145) (o := .cells #[u146000] 56 (0, 0)) (by (with_reducible repeat (first | refine blk_drewN ?_ _ | refine blk_drew ?_ | refine blk_alloc ?_ _)); exact BK145.out)) : gb167 ≠ gb145)); have n16_ := Aside0.mk ((by rw [hg]; exact Nat.ne_of_lt (blk_lt (g := gb147) (o := .cells #[.slice Ao86 x148000_2.length co86] 63 (0, 0)) (by (with_reducible repeat (first | refine blk_drewN ?_ _ | refine blk_drew ?_ | refine blk_alloc ?_ _)); exact BK147.out)) : gb147 ≠ gb167)); have n17_ := Aside0.mk ((by rw [hg]; exact Nat.ne_of_gt (blk_lt (g := gb147) (o := .cells #[.slice Ao86 x148000_2.length co86] 63 (0, 0)) (by (with_reducible repeat (first | refine blk_drewN ?_ _ | refine blk_drew ?_ | refine blk_alloc ?_ _)); exact BK147.out)) : gb167 ≠ gb147)); clear HO_6; clear HO_142000; clear HO_146000; clear HO_148000; clear HO166; clear BK141; clear BK145; clear BK147; clear HB; have HO_6 := n0_; have HO_142000 := n1_; have HO_146000 := n2_; have HO_148000 := n3_; have HO166 := n4_; have BK141 := n5_; have BK145 := n6_; have BK147 := n7_; have HB := n8_; have BK167 := n9_; have GW167 := n10_; have GE167 := n11_; have NB141_167 := n12_; have NB167_141 := n13_; have NB145_167 := n14_; have NB167_145 := n15_; have NB147_167 := n16_; have NB167_147 := n17_; clear n0_ n1_ n2_ n3_ n4_ n5_ n6_ n7_ n8_ n9_ n10_ n11_ n12_ n13_ n14_ n15_ n16_ n17_; clear hb hbox hg; obtain ⟨Ao90, co90, eo90⟩ := Kd.R_slice HO166.out; subst eo90; have hnb91 := NB167_141.out; have hnc91 := NB141_167.out; have hnb92 := NB167_145.out; have hnc92 := NB145_167.out; have hnb93 := NB167_147.out; have hnc93 := NB147_167.out; have hcz94_0 : w89.cell? ⟨gb167, 0, none⟩ = some (.slice none 0 0) := (blk_cell BK167.out 0).trans rfl; have hfz94_0 := blk_frozen BK167.out 0))
 repeat (go_step3; try go_wp2_with (fail))
 (try (simp only [Exit.noGoto_normal, Exit.noGoto_exit, Exit.noGoto_ret]; try go_wp2_with (fail)))
 go_loopg [91] k2 (fun kq v91 w' => ∃ (x91_3 : Int) (x146000_3 : List Int) (x168000_3 : List Int) (u146000 : Value) (u168000 : Value), v91 = .int .i64 x91_3 ∧ Aside0 (comps_Comps.l3 kq t134 (y164.length : Int) x91_3 t135 x146000_3 x148000_2 x168000_3 = some r) ∧ Aside0 (kq ≤ k2) ∧ Aside0 (Kd.S (Kd.slice 3 (Kd.int .i64)) 56 w' w.heap.size (fun k_ => some k_ ≠ (u146000 : Value).ownBlock ∧ some k_ ≠ ((.slice Ao86 x148000_2.length co86) : Value).ownBlock ∧ some k_ ≠ (u168000 : Value).ownBlock ∧ k_ ≠ gb145 ∧ k_ ≠ gb167) (.slice Ao12 t135.length co12) t135) ∧ Aside0 (Kd.R (Kd.int .i64) 3 w' w.heap.size (fun k_ => some k_ ≠ (u168000 : Value).ownBlock) u146000 x146000_3) ∧ Aside0 (Kd.S (Kd.slice 3 (Kd.int .i64)) 56 w' w.heap.size (fun k_ => some k_ ≠ ((.slice Ao12 t135.length co12) : Value).ownBlock ∧ some k_ ≠ (u146000 : Value).ownBlock ∧ some k_ ≠ (u168000 : Value).ownBlock ∧ k_ ≠ gb145 ∧ k_ ≠ gb167) (.slice Ao86 x148000_2.length co86) x148000_2) ∧ Aside0 (Kd.R (Kd.int .i64) 3 w' w.heap.size (fun k_ => some k_ ≠ (u146000 : Value).ownBlock) u168000 x168000_3) ∧ Aside0 (w'.heap[gb141]? = some (.cells #[(.slice Ao12 t135.length co12)] 63 (0, 0))) ∧ Aside0 (w'.heap[gb145]? = some (.cells #[u146000] 56 (0, 0))) ∧ Aside0 (w'.heap[gb147]? = some (.cells #[(.slice Ao86 x148000_2.length co86)] 63 (0, 0))) ∧ Aside0 (w'.heap[gb167]? = some (.cells #[u168000] 56 (0, 0))) ∧ Aside0 (Below w.heap.size w w'))
 case atStart => exact ⟨(0), (x146000_2), (y164), (u146000), (.slice Ao90 y164.length co90), (by first | rfl | (simp; done) | (simp [*]; done)), H', ⟨Nat.le_refl _⟩, ⟨by (with_reducible repeat (first | apply Kd.S_alloc | apply Kd.S_drewN | apply Kd.S_drew)); exact Kd.S_mono (Kd.S_far (p := ⟨gb167, 0, none⟩) (Kd.S_mono HO_142000.out (fun k_ hk => (⟨hk, hk.2⟩ : _ ∧ k_ ≠ gb167))) (fun _ hk => hk.2) (.slice Ao90 y164.length co90)) (fun _ hk => ⟨hk.1.1.1.2.1, ⟨hk.1.1.1.2.2.1, ⟨hk.1.1.2, ⟨hk.1.1.1.2.2.2, hk.1.2⟩⟩⟩⟩)⟩, ⟨by (with_reducible repeat (first | apply Kd.R_alloc | apply Kd.R_drewN | apply Kd.R_drew)); exact Kd.R_mono (Kd.R_far (p := ⟨gb167, 0, none⟩) (Kd.R_types HO_146000.out BK167.out (by decide)) (fun _ hk => hk.2) (.slice Ao90 y164.length co90)) (fun _ hk => hk.1.2)⟩, ⟨by (with_reducible repeat (first | apply Kd.S_alloc | apply Kd.S_drewN | apply Kd.S_drew)); exact Kd.S_mono (Kd.S_far (p := ⟨gb167, 0, none⟩) (Kd.S_mono HO_148000.out (fun k_ hk => (⟨hk, hk.2⟩ : _ ∧ k_ ≠ gb167))) (fun _ hk => hk.2) (.slice Ao90 y164.length co90)) (fun _ hk => ⟨hk.1.1.1.2.1, ⟨hk.1.1.1.2.2.1, ⟨hk.1.1.2, ⟨hk.1.1.1.2.2.2, hk.1.2⟩⟩⟩⟩)⟩, ⟨by (with_reducible repeat (first | apply Kd.R_alloc | apply Kd.R_drewN | apply Kd.R_drew)); exact Kd.R_mono (Kd.R_far (p := ⟨gb167, 0, none⟩) (Kd.R_types HO166.out BK167.out (by decide)) (fun _ hk => hk.2) (.slice Ao90 y164.length co90)) (fun _ hk => hk.1.2)⟩, ⟨by (with_reducible repeat (first | refine blk_drewN ?_ _ | refine blk_drew ?_ | refine blk_alloc ?_ _)); refine blk_far ?_ NB141_167.out _; (with_reducible repeat (first | refine blk_drewN ?_ _ | refine blk_drew ?_ | refine blk_alloc ?_ _)); exact BK141.out⟩, ⟨by (with_reducible repeat (first | refine blk_drewN ?_ _ | refine blk_drew ?_ | refine blk_alloc ?_ _)); refine blk_far ?_ NB145_167.out _; (with_reducible repeat (first | refine blk_drewN ?_ _ | refine blk_drew ?_ | refine blk_alloc ?_ _)); exact BK145.out⟩, ⟨by (with_reducible repeat (first | refine blk_drewN ?_ _ | refine blk_drew ?_ | refine blk_alloc ?_ _)); refine blk_far ?_ NB147_167.out _; (with_reducible repeat (first | refine blk_drewN ?_ _ | refine blk_drew ?_ | refine blk_alloc ?_ _)); exact BK147.out⟩, ⟨by (with_reducible repeat (first | refine blk_drewN ?_ _ | refine blk_drew ?_ | refine blk_alloc ?_ _)); refine blk_put (cs := #[.slice none 0 0]) ?_ 0 _ rfl; (with_reducible repeat (first | refine blk_drewN ?_ _ | refine blk_drew ?_ | refine blk_alloc ?_ _)); exact BK167.out⟩, ⟨by repeat (first | (with_reducible first | exact HB.out | apply below_alloc | apply pw_below_drewN | apply below_drew1 | refine below_set ?_ GE141.out | refine below_set ?_ GE145.out | refine below_set ?_ GE147.out | refine below_set ?_ GE167.out) | exact HB.out)⟩⟩
 clear H'
 try clear c1
 try clear p1
 try clear q1
 try clear hx1
 try clear c2
 try clear p2
 try clear q2
 try clear hx2
 try clear hf2
 try clear c3
 try clear p3
 try clear c4
 try clear c5
 try clear p5
 try clear q5
 try clear hx5
 try clear hf5
 try clear c6
 try clear c6b0
 try clear c6b1
 try clear p6
 try clear c7
 try clear c7b0
 try clear c7b1
 try clear c8
 try clear c9
 try clear p14
 try clear q14
 try clear hx14
 try clear p15
 try clear q15
 try clear hx15
 try clear c18
 try clear c19
 try clear c20
 try clear c20b0
 try clear c21
 try clear c21b0
 try clear c22
 try clear c22b0
 try clear p23
 try clear q23
 try clear hx23
 try clear hf23
 try clear c24
 try clear c29
 try clear c29b0
 try clear c30
 try clear c30b0
 try clear c31
 try clear c31b0
 try clear c32
 try clear c32b0
 try clear c33
 try clear c34
 try clear c35
 try clear c36
 try clear c39
 try clear c40
 try clear c43
 try clear c48
 try clear c48b0
 try clear c49
 try clear c49b0
 try clear c50
 try clear c50b0
 try clear q51
 try clear c52
 try clear c53
 try clear c53b0
 try clear q54
 try clear c55
 try clear c56
 try clear c56b0
 try clear p57
 try clear q57
 try clear hx57
 try clear hf57
 try clear c58
 try clear c61
 try clear c62
 try clear c64
 try clear p64
 try clear c73
 try clear c74
 try clear c75
 try clear c81
 try clear c81b0
 try clear c81b1
 try clear c82
 try clear c82b0
 try clear c82b1
 try clear c83
 try clear c84
 try clear c91
 try clear c92
 try clear c93
 try clear hcz13_0
 try clear hcz19_0
 try clear hcz25_0
 try clear hcz35_0
 try clear hcz41_0
 try clear hcz44_0
 try clear hcz63_0
 try clear hcz65_0
 try clear hcz76_0
 try clear hcz80_0
 try clear hcz85_0
 try clear hcz94_0
 try clear hfz13_0
 try clear hfz19_0
 try clear hfz25_0
 try clear hfz35_0
 try clear hfz41_0
 try clear hfz44_0
 try clear hfz63_0
 try clear hfz65_0
 try clear hfz76_0
 try clear hfz80_0
 try clear hfz85_0
 try clear hfz94_0
 try clear hx148_0
 try clear hx155_0
 try clear hx156_0
 try clear hx23_0
 try clear hx57_0
 try clear p1
 try clear p14
 try clear p148
 try clear p155
 try clear p156
 try clear p2
 try clear p23
 try clear p3
 try clear p57
 try clear p6
 try clear q1
 try clear q14
 try clear q148
 try clear q155
 try clear q156
 try clear q2
 try clear q23
 try clear q57
 obtain ⟨x91_3, x146000_3, x168000_3, u146000, u168000, rfl, HA, HK3, HO_142000, HO_146000, HO_148000, HO_168000, BK141, BK145, BK147, BK167, HB⟩ := hrel
 obtain _ | k3 := gk
 · exact absurd HA.out (by simp [comps_Comps.l3])
 have H := HA.out
 clear HA
 simp only [comps_Comps.l3] at H
 by_cases c95 : x91_3 < (y164.length : Int)
 case pos =>
  rw [if_pos c95] at H
  have c95b0 := decide_eq_true c95
  clear c95
  by_cases c96 : 0 ≤ x91_3
  case neg => rw [if_neg c96] at H; exact absurd H (by simp)
  rw [if_pos c96] at H
  have c96b0 := decide_eq_true c96
  clear c96
  by_cases c97 : x91_3 < (x168000_3.length : Int)
  case neg => rw [if_neg c97] at H; exact absurd H (by simp)
  rw [if_pos c97] at H
  have c97b0 := decide_eq_true c97
  clear c97
  obtain ⟨y168, hy168⟩ : ∃ y_ : List Int, y_ = (x168000_3.set (x91_3 : Int).toNat (-1)) := ⟨_, rfl⟩
  replace H : (comps_Comps.l3 k3 t134 (y164.length : Int) (wrap64 (x91_3 + 1)) t135 x146000_3 x148000_2 y168) = some r := by first | (rw [hy168]; with_reducible exact H) | (have H2_ := (Option.bind_some _ _).symm.trans H; rw [hy168]; with_reducible exact H2_) | (have H2_ := (Option.bind_some _ _).symm.trans H; with_reducible exact H2_) | with_reducible exact H | (rw [hy168]; exact H) | exact H
  have Ny168 := Aside0.mk hy168
  clear hy168
  have H' := Aside0.mk H
  clear H
  have hnb99 := NB167_141.out
  have hnc99 := NB141_167.out
  have hnb100 := NB167_145.out
  have hnc100 := NB145_167.out
  have hnb101 := NB167_147.out
  have hnc101 := NB147_167.out
  have hcz102_0 : wr.cell? ⟨gb167, 0, none⟩ = some (u168000) := (blk_cell BK167.out 0).trans rfl
  have hfz102_0 := blk_frozen BK167.out 0
  have p98 : 0 ≤ (x91_3 : Int) := of_decide_eq_true (by with_reducible assumption)
  have q98 : (x91_3 : Int) < ((x168000_3.length : Int) : Int) := of_decide_eq_true (by with_reducible assumption)
  obtain ⟨go98, co98, eo98, gb98, gl98, cl98, HG98⟩ := Kd.R_form HO_168000.out (by omega)
  (first | cases eo98 | (injection eo98 with ea_ en_ ec_; (first | subst ea_ | (injection ea_ with ea_; subst ea_)); subst ec_; clear en_))
  have GB98 := Aside0.mk gb98
  have GG98 := Aside0.mk HG98
  clear gb98 gl98 HG98
  obtain ⟨hx98_0, hf98_0⟩ := Kd.R_celln 0 HO_168000.out (x91_3 : Int) p98 q98
  replace p98 := eq_true p98
  replace q98 := eq_true q98
  have HP103 := Kd.R_putg HO_168000.out (x91_3 : Int) (-1)
  go_wp2_with (first | ((with_reducible refine gate_store (t := 3) (p := 96) rfl ?_); refine store_event (t := 3) (p := 96) (v := ?vo_w104) (w1 := (wr.setCell ⟨go98, (x91_3 : Int).toNat, none⟩ (.int .i64 (-1)))) ?hg ?ho ?hn ?hr ?_; (case ho => rfl); (case hg => rfl); (case hn => rfl); (case hr => first | (go_simp; done) | (go_simp; rfl)); intro w104 hw; have hg : wr.grownBy w104 (some go98) := (by rw [hw]; exact HP103.2); have hp_ : Kd.R (Kd.int .i64) 3 w104 w.heap.size (fun k_ => some k_ ≠ (u146000 : Value).ownBlock) (.slice (some ⟨go98, 0, none⟩) x168000_3.length co98) y168 := (by rw [hw, Ny168.out]; exact HP103.1); clear HP103; have n0_ := Aside0.mk (Kd.S_after (v := (.slice (some ⟨go98, 0, none⟩) x168000_3.length co98)) (v1 := (.slice (some ⟨go98, 0, none⟩) x168000_3.length co98)) (ok := (fun k_ => some k_ ≠ (u146000 : Value).ownBlock ∧ some k_ ≠ (.slice Ao86 x148000_2.length co86 : Value).ownBlock ∧ k_ ≠ gb145 ∧ k_ ≠ gb167)) (by (with_reducible repeat (first | apply Kd.S_alloc | apply Kd.S_drewN | apply Kd.S_drew)); exact Kd.S_mono HO_142000.out (fun _ hk => ⟨⟨hk.1, ⟨hk.2.1, ⟨hk.2.2.2.1, hk.2.2.2.2⟩⟩⟩, hk.2.2.1⟩)) hg (.inl rfl)); have n1_ := Aside0.mk (Kd.R_after (v := (.slice (some ⟨go98, 0, none⟩) x168000_3.length co98)) (v1 := (.slice (some ⟨go98, 0, none⟩) x168000_3.length co98)) (ok := (fun _ => True)) (by (with_reducible repeat (first | apply Kd.R_alloc | apply Kd.R_drewN | apply Kd.R_drew)); exact Kd.R_mono HO_146000.out (fun _ hk => ⟨trivial, hk⟩)) hg (.inl rfl)); have n2_ := Aside0.mk (Kd.S_after (v := (.slice (some ⟨go98, 0, none⟩) x168000_3.length co98)) (v1 := (.slice (some ⟨go98, 0, none⟩) x168000_3.length co98)) (ok := (fun k_ => some k_ ≠ (.slice Ao12 t135.length co12 : Value).ownBlock ∧ some k_ ≠ (u146000 : Value).ownBlock ∧ k_ ≠ gb145 ∧ k_ ≠ gb167)) (by (with_reducible repeat (first | apply Kd.S_alloc | apply Kd.S_drewN | apply Kd.S_drew)); exact Kd.S_mono HO_148000.out (fun _ hk => ⟨⟨hk.1, ⟨hk.2.1, ⟨hk.2.2.2.1, hk.2.2.2.2⟩⟩⟩, hk.2.2.1⟩)) hg (.inl rfl)); have n3_ := Aside0.mk (hp_); have n4_ := Aside0.mk (blk_grown (g := gb141) (o := .cells #[.slice Ao12 t135.length co12] 63 (0, 0)) (by (with_reducible repeat (first | refine blk_drewN ?_ _ | refine blk_drew ?_ | refine blk_alloc ?_ _)); exact BK141.out) hg (Kd.R_ne HO_168000.out BK141.out (by decide))); have n5_ := Aside0.mk (blk_grown (g := gb145) (o := .cells #[u146000] 56 (0, 0)) (by (with_reducible repeat (first | refine blk_drewN ?_ _ | refine blk_drew ?_ | refine blk_alloc ?_ _)); exact BK145.out) hg (Kd.R_ne HO_168000.out BK145.out (by decide))); have n6_ := Aside0.mk (blk_grown (g := gb147) (o := .cells #[.slice Ao86 x148000_2.length co86] 63 (0, 0)) (by (with_reducible repeat (first | refine blk_drewN ?_ _ | refine blk_drew ?_ | refine blk_alloc ?_ _)); exact BK147.out) hg (Kd.R_ne HO_168000.out BK147.out (by decide))); have n7_ := Aside0.mk (blk_grown (g := gb167) (o := .cells #[.slice (some ⟨go98, 0, none⟩) x168000_3.length co98] 56 (0, 0)) (by (with_reducible repeat (first | refine blk_drewN ?_ _ | refine blk_drew ?_ | refine blk_alloc ?_ _)); exact BK167.out) hg (Kd.R_ne HO_168000.out BK167.out (by decide))); have n8_ := Aside0.mk ((by rw [hw]; exact below_set (HB.out) GB98.out : Below w.heap.size w w104)); clear HO_142000; clear HO_146000; clear HO_148000; clear HO_168000; clear BK141; clear BK145; clear BK147; clear BK167; clear HB; have HO_142000 := n0_; have HO_146000 := n1_; have HO_148000 := n2_; have HO_168000 := n3_; have BK141 := n4_; have BK145 := n5_; have BK147 := n6_; have BK167 := n7_; have HB := n8_; clear n0_ n1_ n2_ n3_ n4_ n5_ n6_ n7_ n8_; clear hg hw hp_))
  repeat (go_step3; try go_wp2_with (fail))
  (try (simp only [Exit.noGoto_normal, Exit.noGoto_exit, Exit.noGoto_ret]; try go_wp2_with (fail)))
  go_roundg k3
  case measure => have := HK1.out; have := HK2.out; have := HK3.out; omega
  case rel => exact ⟨(wrap64 (x91_3 + 1)), (x146000_3), (y168), (u146000), (.slice (some ⟨go98, 0, none⟩) x168000_3.length co98), (by first | rfl | (simp; done) | (simp [*]; done)), H', ⟨by have := HK1.out; have := HK2.out; have := HK3.out; omega⟩, ⟨by (with_reducible repeat (first | apply Kd.S_alloc | apply Kd.S_drewN | apply Kd.S_drew)); exact Kd.S_mono HO_142000.out (fun _ hk => ⟨hk.1.1, ⟨hk.1.2.1, ⟨hk.2, ⟨hk.1.2.2.1, hk.1.2.2.2⟩⟩⟩⟩)⟩, ⟨by (with_reducible repeat (first | apply Kd.R_alloc | apply Kd.R_drewN | apply Kd.R_drew)); exact Kd.R_mono HO_146000.out (fun _ hk => hk.2)⟩, ⟨by (with_reducible repeat (first | apply Kd.S_alloc | apply Kd.S_drewN | apply Kd.S_drew)); exact Kd.S_mono HO_148000.out (fun _ hk => ⟨hk.1.1, ⟨hk.1.2.1, ⟨hk.2, ⟨hk.1.2.2.1, hk.1.2.2.2⟩⟩⟩⟩)⟩, ⟨by (with_reducible repeat (first | apply Kd.R_alloc | apply Kd.R_drewN | apply Kd.R_drew)); exact HO_168000.out⟩, ⟨by (with_reducible repeat (first | refine blk_drewN ?_ _ | refine blk_drew ?_ | refine blk_alloc ?_ _)); exact BK141.out⟩, ⟨by (with_reducible repeat (first | refine blk_drewN ?_ _ | refine blk_drew ?_ | refine blk_alloc ?_ _)); exact BK145.out⟩, ⟨by (with_reducible repeat (first | refine blk_drewN ?_ _ | refine blk_drew ?_ | refine blk_alloc ?_ _)); exact BK147.out⟩, ⟨by (with_reducible repeat (first | refine blk_drewN ?_ _ | refine blk_drew ?_ | refine blk_alloc ?_ _)); exact BK167.out⟩, ⟨by repeat (first | (with_reducible first | exact HB.out | apply below_alloc | apply pw_below_drewN | apply below_drew1 | refine below_set ?_ GE141.out | refine below_set ?_ GE145.out | refine below_set ?_ GE147.out | refine below_set ?_ GE167.out) | exact HB.out)⟩⟩
 rw [if_neg c95] at H
 have c95b0 := decide_eq_false c95
 clear c95
 have H' := Aside0.mk H
 clear H
 have hnb105 := NB147_141.out
 have hnc105 := NB141_147.out
 have hnb106 := NB147_145.out
 have hnc106 := NB145_147.out
 have hnb107 := NB147_167.out
 have hnc107 := NB167_147.out
 have hcz108_0 : wr.cell? ⟨gb147, 0, none⟩ = some (.slice Ao86 x148000_2.length co86) := (blk_cell BK147.out 0).trans rfl
 have hfz108_0 := blk_frozen BK147.out 0
 go_wp2
 repeat (go_step3; try go_wp2_with (fail))
 (try (simp only [Exit.noGoto_normal, Exit.noGoto_exit, Exit.noGoto_ret]; try go_wp2_with (fail)))
 go_loopg [101] k3 (fun kq v101 w' => ∃ (x101_4 : Int) (x146000_4 : List Int) (x168000_4 : List Int) (u146000 : Value) (u168000 : Value), v101 = .int .i64 x101_4 ∧ Aside0 (comps_Comps.l4 kq t134 (x148000_2.length : Int) x101_4 t135 x146000_4 x148000_2 x168000_4 = some r) ∧ Aside0 (kq ≤ k3) ∧ Aside0 (Kd.S (Kd.slice 3 (Kd.int .i64)) 56 w' w.heap.size (fun k_ => some k_ ≠ (u146000 : Value).ownBlock ∧ some k_ ≠ ((.slice Ao86 x148000_2.length co86) : Value).ownBlock ∧ some k_ ≠ (u168000 : Value).ownBlock ∧ k_ ≠ gb145 ∧ k_ ≠ gb167) (.slice Ao12 t135.length co12) t135) ∧ Aside0 (Kd.R (Kd.int .i64) 3 w' w.heap.size (fun k_ => some k_ ≠ (u168000 : Value).ownBlock) u146000 x146000_4) ∧ Aside0 (Kd.S (Kd.slice 3 (Kd.int .i64)) 56 w' w.heap.size (fun k_ => some k_ ≠ ((.slice Ao12 t135.length co12) : Value).ownBlock ∧ some k_ ≠ (u146000 : Value).ownBlock ∧ some k_ ≠ (u168000 : Value).ownBlock ∧ k_ ≠ gb145 ∧ k_ ≠ gb167) (.slice Ao86 x148000_2.length co86) x148000_2) ∧ Aside0 (Kd.R (Kd.int .i64) 3 w' w.heap.size (fun k_ => some k_ ≠ (u146000 : Value).ownBlock) u168000 x168000_4) ∧ Aside0 (w'.heap[gb141]? = some (.cells #[(.slice Ao12 t135.length co12)] 63 (0, 0))) ∧ Aside0 (w'.heap[gb145]? = some (.cells #[u146000] 56 (0, 0))) ∧ Aside0 (w'.heap[gb147]? = some (.cells #[(.slice Ao86 x148000_2.length co86)] 63 (0, 0))) ∧ Aside0 (w'.heap[gb167]? = some (.cells #[u168000] 56 (0, 0))) ∧ Aside0 (Below w.heap.size w w'))
 case atStart => exact ⟨(0), (x146000_3), (x168000_3), (u146000), (u168000), (by first | rfl | (simp; done) | (simp [*]; done)), H', ⟨Nat.le_refl _⟩, ⟨by (with_reducible repeat (first | apply Kd.S_alloc | apply Kd.S_drewN | apply Kd.S_drew)); exact HO_142000.out⟩, ⟨by (with_reducible repeat (first | apply Kd.R_alloc | apply Kd.R_drewN | apply Kd.R_drew)); exact HO_146000.out⟩, ⟨by (with_reducible repeat (first | apply Kd.S_alloc | apply Kd.S_drewN | apply Kd.S_drew)); exact HO_148000.out⟩, ⟨by (with_reducible repeat (first | apply Kd.R_alloc | apply Kd.R_drewN | apply Kd.R_drew)); exact HO_168000.out⟩, ⟨by (with_reducible repeat (first | refine blk_drewN ?_ _ | refine blk_drew ?_ | refine blk_alloc ?_ _)); exact BK141.out⟩, ⟨by (with_reducible repeat (first | refine blk_drewN ?_ _ | refine blk_drew ?_ | refine blk_alloc ?_ _)); exact BK145.out⟩, ⟨by (with_reducible repeat (first | refine blk_drewN ?_ _ | refine blk_drew ?_ | refine blk_alloc ?_ _)); exact BK147.out⟩, ⟨by (with_reducible repeat (first | refine blk_drewN ?_ _ | refine blk_drew ?_ | refine blk_alloc ?_ _)); exact BK167.out⟩, ⟨by repeat (first | (with_reducible first | exact HB.out | apply below_alloc | apply pw_below_drewN | apply below_drew1 | refine below_set ?_ GE141.out | refine below_set ?_ GE145.out | refine below_set ?_ GE147.out | refine below_set ?_ GE167.out) | exact HB.out)⟩⟩
 clear H'
 try clear c1
 try clear p1
 try clear q1
 try clear hx1
 try clear c2
 try clear p2
 try clear q2
 try clear hx2
 try clear hf2
 try clear c3
 try clear p3
 try clear c4
 try clear c5
 try clear p5
 try clear q5
 try clear hx5
 try clear hf5
 try clear c6
 try clear c6b0
 try clear c6b1
 try clear p6
 try clear c7
 try clear c7b0
 try clear c7b1
 try clear c8
 try clear c9
 try clear p9
 try clear q9
 try clear hx9
 try clear hf9
 try clear c10
 try clear p14
 try clear q14
 try clear hx14
 try clear p15
 try clear q15
 try clear hx15
 try clear c18
 try clear c19
 try clear c20
 try clear c20b0
 try clear c21
 try clear c21b0
 try clear c22
 try clear c22b0
 try clear p23
 try clear q23
 try clear hx23
 try clear hf23
 try clear c24
 try clear c29
 try clear c29b0
 try clear c30
 try clear c30b0
 try clear c31
 try clear c31b0
 try clear c32
 try clear c32b0
 try clear c33
 try clear c34
 try clear c35
 try clear c36
 try clear c39
 try clear c40
 try clear c43
 try clear c48
 try clear c48b0
 try clear c49
 try clear c49b0
 try clear c50
 try clear c50b0
 try clear q51
 try clear c52
 try clear c53
 try clear c53b0
 try clear q54
 try clear c55
 try clear c56
 try clear c56b0
 try clear p57
 try clear q57
 try clear hx57
 try clear hf57
 try clear c58
 try clear c61
 try clear c62
 try clear c64
 try clear p64
 try clear c73
 try clear c74
 try clear c75
 try clear c81
 try clear c81b0
 try clear c81b1
 try clear c82
 try clear c82b0
 try clear c82b1
 try clear c83
 try clear c84
 try clear c91
 try clear c92
 try clear c93
 try clear c95
 try clear c95b0
 try clear c96
 try clear c96b0
 try clear c97
 try clear c97b0
 try clear p98
 try clear q98
 try clear hx98
 try clear hf98
 try clear c99
 try clear c100
 try clear c101
 try clear c105
 try clear c106
 try clear c107
 try clear hcz102_0
 try clear hcz108_0
 try clear hcz13_0
 try clear hcz19_0
 try clear hcz25_0
 try clear hcz35_0
 try clear hcz41_0
 try clear hcz44_0
 try clear hcz63_0
 try clear hcz65_0
 try clear hcz76_0
 try clear hcz80_0
 try clear hcz85_0
 try clear hcz94_0
 try clear hfz102_0
 try clear hfz108_0
 try clear hfz13_0
 try clear hfz19_0
 try clear hfz25_0
 try clear hfz35_0
 try clear hfz41_0
 try clear hfz44_0
 try clear hfz63_0
 try clear hfz65_0
 try clear hfz76_0
 try clear hfz80_0
 try clear hfz85_0
 try clear hfz94_0
 try clear hx148_0
 try clear hx155_0
 try clear hx156_0
 try clear hx23_0
 try clear hx57_0
 try clear hx98_0
 try clear p1
 try clear p14
 try clear p148
 try clear p15
 try clear p155
 try clear p156
 try clear p2
 try clear p23
 try clear p3
 try clear p5
 try clear p57
 try clear p6
 try clear p64
 try clear p98
 try clear q1
 try clear q14
 try clear q148
 try clear q15
 try clear q155
 try clear q156
 try clear q2
 try clear q23
 try clear q5
 try clear q51
 try clear q54
 try clear q57
 try clear q98
 obtain ⟨x101_4, x146000_4, x168000_4, u146000, u168000, rfl, HA, HK4, HO_142000, HO_146000, HO_148000, HO_168000, BK141, BK145, BK147, BK167, HB⟩ := hrel
 obtain _ | k4 := gk
 · exact absurd HA.out (by simp [comps_Comps.l4])
 have H := HA.out
 clear HA
 simp only [comps_Comps.l4] at H
 by_cases c109 : x101_4 < (x148000_2.length : Int)
 case pos =>
  rw [if_pos c109] at H
  have c109b0 := decide_eq_true c109
  clear c109
  have H' := Aside0.mk H
  clear H
  have hnb110 := NB147_141.out
  have hnc110 := NB141_147.out
  have hnb111 := NB147_145.out
  have hnc111 := NB145_147.out
  have hnb112 := NB147_167.out
  have hnc112 := NB167_147.out
  have hcz113_0 : wr.cell? ⟨gb147, 0, none⟩ = some (.slice Ao86 x148000_2.length co86) := (blk_cell BK147.out 0).trans rfl
  have hfz113_0 := blk_frozen BK147.out 0
  go_wp2
  repeat (go_step3; try go_wp2_with (fail))
  (try (simp only [Exit.noGoto_normal, Exit.noGoto_exit, Exit.noGoto_ret]; try go_wp2_with (fail)))
  go_loopg [106] k4 (fun kq v106 w' => ∃ (x106_5 : Int) (x146000_5 : List Int) (x168000_5 : List Int) (u146000 : Value) (u168000 : Value), v106 = .int .i64 x106_5 ∧ Aside0 (comps_Comps.l5 kq t134 x101_4 (x148000_2.length : Int) x101_4 (x148000_2.length : Int) x106_5 t135 x146000_5 x148000_2 x168000_5 = some r) ∧ Aside0 (kq ≤ k4) ∧ Aside0 (Kd.S (Kd.slice 3 (Kd.int .i64)) 56 w' w.heap.size (fun k_ => some k_ ≠ (u146000 : Value).ownBlock ∧ some k_ ≠ ((.slice Ao86 x148000_2.length co86) : Value).ownBlock ∧ some k_ ≠ (u168000 : Value).ownBlock ∧ k_ ≠ gb145 ∧ k_ ≠ gb167) (.slice Ao12 t135.length co12) t135) ∧ Aside0 (Kd.R (Kd.int .i64) 3 w' w.heap.size (fun k_ => some k_ ≠ (u168000 : Value).ownBlock) u146000 x146000_5) ∧ Aside0 (Kd.S (Kd.slice 3 (Kd.int .i64)) 56 w' w.heap.size (fun k_ => some k_ ≠ ((.slice Ao12 t135.length co12) : Value).ownBlock ∧ some k_ ≠ (u146000 : Value).ownBlock ∧ some k_ ≠ (u168000 : Value).ownBlock ∧ k_ ≠ gb145 ∧ k_ ≠ gb167) (.slice Ao86 x148000_2.length co86) x148000_2) ∧ Aside0 (Kd.R (Kd.int .i64) 3 w' w.heap.size (fun k_ => some k_ ≠ (u146000 : Value).ownBlock) u168000 x168000_5) ∧ Aside0 (w'.heap[gb141]? = some (.cells #[(.slice Ao12 t135.length co12)] 63 (0, 0))) ∧ Aside0 (w'.heap[gb145]? = some (.cells #[u146000] 56 (0, 0))) ∧ Aside0 (w'.heap[gb147]? = some (.cells #[(.slice Ao86 x148000_2.length co86)] 63 (0, 0))) ∧ Aside0 (w'.heap[gb167]? = some (.cells #[u168000] 56 (0, 0))) ∧ Aside0 (Below w.heap.size w w'))
  case atStart => exact ⟨(0), (x146000_4), (x168000_4), (u146000), (u168000), (by first | rfl | (simp; done) | (simp [*]; done)), H', ⟨Nat.le_refl _⟩, ⟨by (with_reducible repeat (first | apply Kd.S_alloc | apply Kd.S_drewN | apply Kd.S_drew)); exact HO_142000.out⟩, ⟨by (with_reducible repeat (first | apply Kd.R_alloc | apply Kd.R_drewN | apply Kd.R_drew)); exact HO_146000.out⟩, ⟨by (with_reducible repeat (first | apply Kd.S_alloc | apply Kd.S_drewN | apply Kd.S_drew)); exact HO_148000.out⟩, ⟨by (with_reducible repeat (first | apply Kd.R_alloc | apply Kd.R_drewN | apply Kd.R_drew)); exact HO_168000.out⟩, ⟨by (with_reducible repeat (first | refine blk_drewN ?_ _ | refine blk_drew ?_ | refine blk_alloc ?_ _)); exact BK141.out⟩, ⟨by (with_reducible repeat (first | refine blk_drewN ?_ _ | refine blk_drew ?_ | refine blk_alloc ?_ _)); exact BK145.out⟩, ⟨by (with_reducible repeat (first | refine blk_drewN ?_ _ | refine blk_drew ?_ | refine blk_alloc ?_ _)); exact BK147.out⟩, ⟨by (with_reducible repeat (first | refine blk_drewN ?_ _ | refine blk_drew ?_ | refine blk_alloc ?_ _)); exact BK167.out⟩, ⟨by repeat (first | (with_reducible first | exact HB.out | apply below_alloc | apply pw_below_drewN | apply below_drew1 | refine below_set ?_ GE141.out | refine below_set ?_ GE145.out | refine below_set ?_ GE147.out | refine below_set ?_ GE167.out) | exact HB.out)⟩⟩
  clear H'
  try clear c1
  try clear p1
  try clear q1
  try clear hx1
  try clear c2
  try clear p2
  try clear q2
  try clear hx2
  try clear hf2
  try clear c3
  try clear p3
  try clear c4
  try clear c5
  try clear p5
  try clear q5
  try clear hx5
  try clear hf5
  try clear c6
  try clear c6b0
  try clear c6b1
  try clear p6
  try clear c7
  try clear c7b0
  try clear c7b1
  try clear c8
  try clear c9
  try clear p9
  try clear q9
  try clear hx9
  try clear hf9
  try clear c10
  try clear c11
  try clear p14
  try clear q14
  try clear hx14
  try clear p15
  try clear q15
  try clear hx15
  try clear c18
  try clear c19
  try clear c20
  try clear c20b0
  try clear c21
  try clear c21b0
  try clear c22
  try clear c22b0
  try clear p23
  try clear q23
  try clear hx23
  try clear hf23
  try clear c24
  try clear c29
  try clear c29b0
  try clear c30
  try clear c30b0
  try clear c31
  try clear c31b0
  try clear c32
  try clear c32b0
  try clear c33
  try clear c34
  try clear c35
  try clear c36
  try clear c39
  try clear c40
  try clear c43
  try clear c48
  try clear c48b0
  try clear c49
  try clear c49b0
  try clear c50
  try clear c50b0
  try clear q51
  try clear c52
  try clear c53
  try clear c53b0
  try clear q54
  try clear c55
  try clear c56
  try clear c56b0
  try clear p57
  try clear q57
  try clear hx57
  try clear hf57
  try clear c58
  try clear c61
  try clear c62
  try clear c64
  try clear p64
  try clear c73
  try clear c74
  try clear c75
  try clear c81
  try clear c81b0
  try clear c81b1
  try clear c82
  try clear c82b0
  try clear c82b1
  try clear c83
  try clear c84
  try clear c91
  try clear c92
  try clear c93
  try clear c95
  try clear c95b0
  try clear c96
  try clear c96b0
  try clear c97
  try clear c97b0
  try clear p98
  try clear q98
  try clear hx98
  try clear hf98
  try clear c99
  try clear c100
  try clear c101
  try clear c105
  try clear c106
  try clear c107
  try clear c109
  try clear c109b0
  try clear c110
  try clear c111
  try clear c112
  try clear hcz102_0
  try clear hcz108_0
  try clear hcz113_0
  try clear hcz13_0
  try clear hcz19_0
  try clear hcz25_0
  try clear hcz35_0
  try clear hcz41_0
  try clear hcz44_0
  try clear hcz63_0
  try clear hcz65_0
  try clear hcz76_0
  try clear hcz80_0
  try clear hcz85_0
  try clear hcz94_0
  try clear hfz102_0
  try clear hfz108_0
  try clear hfz113_0
  try clear hfz13_0
  try clear hfz19_0
  try clear hfz25_0
  try clear hfz35_0
  try clear hfz41_0
  try clear hfz44_0
  try clear hfz63_0
  try clear hfz65_0
  try clear hfz76_0
  try clear hfz80_0
  try clear hfz85_0
  try clear hfz94_0
  try clear hx148_0
  try clear hx155_0
  try clear hx156_0
  try clear hx23_0
  try clear hx57_0
  try clear hx98_0
  try clear p1
  try clear p14
  try clear p148
  try clear p15
  try clear p155
  try clear p156
  try clear p2
  try clear p23
  try clear p3
  try clear p5
  try clear p57
  try clear p6
  try clear p64
  try clear p9
  try clear p98
  try clear q1
  try clear q14
  try clear q148
  try clear q15
  try clear q155
  try clear q156
  try clear q2
  try clear q23
  try clear q5
  try clear q51
  try clear q54
  try clear q57
  try clear q9
  try clear q98
  obtain ⟨x106_5, x146000_5, x168000_5, u146000, u168000, rfl, HA, HK5, HO_142000, HO_146000, HO_148000, HO_168000, BK141, BK145, BK147, BK167, HB⟩ := hrel
  obtain _ | k5 := gk
  · exact absurd HA.out (by simp [comps_Comps.l5])
  have H := HA.out
  clear HA
  simp only [comps_Comps.l5] at H
  by_cases c114 : x106_5 < (x148000_2.length : Int)
  case neg =>
   rw [if_neg c114] at H
   have c114b0 := decide_eq_false c114
   clear c114
   have H' := Aside0.mk H
   clear H
   go_wp2
   repeat (go_step3; try go_wp2_with (fail))
   (try (simp only [Exit.noGoto_normal, Exit.noGoto_exit, Exit.noGoto_ret]; try go_wp2_with (fail)))
   go_roundg k5
   case measure => have := HK1.out; have := HK2.out; have := HK3.out; have := HK4.out; have := HK5.out; omega
   case rel => exact ⟨(wrap64 (x101_4 + 1)), (x146000_5), (x168000_5), (u146000), (u168000), (by first | rfl | (simp; done) | (simp [*]; done)), H', ⟨by have := HK1.out; have := HK2.out; have := HK3.out; have := HK4.out; have := HK5.out; omega⟩, ⟨by (with_reducible repeat (first | apply Kd.S_alloc | apply Kd.S_drewN | apply Kd.S_drew)); exact HO_142000.out⟩, ⟨by (with_reducible repeat (first | apply Kd.R_alloc | apply Kd.R_drewN | apply Kd.R_drew)); exact HO_146000.out⟩, ⟨by (with_reducible repeat (first | apply Kd.S_alloc | apply Kd.S_drewN | apply Kd.S_drew)); exact HO_148000.out⟩, ⟨by (with_reducible repeat (first | apply Kd.R_alloc | apply Kd.R_drewN | apply Kd.R_drew)); exact HO_168000.out⟩, ⟨by (with_reducible repeat (first | refine blk_drewN ?_ _ | refine blk_drew ?_ | refine blk_alloc ?_ _)); exact BK141.out⟩, ⟨by (with_reducible repeat (first | refine blk_drewN ?_ _ | refine blk_drew ?_ | refine blk_alloc ?_ _)); exact BK145.out⟩, ⟨by (with_reducible repeat (first | refine blk_drewN ?_ _ | refine blk_drew ?_ | refine blk_alloc ?_ _)); exact BK147.out⟩, ⟨by (with_reducible repeat (first | refine blk_drewN ?_ _ | refine blk_drew ?_ | refine blk_alloc ?_ _)); exact BK167.out⟩, ⟨by repeat (first | (with_reducible first | exact HB.out | apply below_alloc | apply pw_below_drewN | apply below_drew1 | refine below_set ?_ GE141.out | refine below_set ?_ GE145.out | refine below_set ?_ GE147.out | refine below_set ?_ GE167.out) | exact HB.out)⟩⟩
  rw [if_pos c114] at H
  have c114b0 := decide_eq_true c114
  clear c114
  replace H := Option.bind_eq_some_iff.mp H
  obtain ⟨t169, A1150, H⟩ := H
  have A115 := Aside0.mk A1150
  clear A1150
  by_cases c116 : t169 = true
  case neg =>
   replace c116 := Bool.eq_false_iff.mpr c116
   subst c116
   rw [if_neg (show ¬ (false = true) by decide)] at H
   have H' := Aside0.mk H
   clear H
   obtain ⟨Ao129, co129, eo129⟩ := Kd.R_slice HO_168000.out
   subst eo129
   obtain ⟨Ao130, co130, eo130⟩ := Kd.R_slice HO_146000.out
   subst eo130
   go_wp2_with (first | (go_at_call 37; (with_reducible refine (comps_free.calls x106_5 gb167 Ao129 co129 x168000_5 gb147 Ao86 co86 x148000_2 gb141 Ao12 co12 t135 gb145 Ao130 co130 x146000_5 false _ ?side1 ?side2 ?side3 ?side4 ?side5 ?side6 ?side7 ?side8 ?side9 ?side10 ?side11 ?side12 A115.out).mono ?_); (case side1 => repeat (first | exact (Kd.R_reads' HO_168000.out).2.2 | (with_reducible refine Kd.C_alloc ?_ _) | (with_reducible refine Kd.C_drewN ?_ _) | (with_reducible refine Kd.C_drew ?_))); (case side2 => exact (Kd.R_reads' HO_168000.out).2.1); (case side3 => repeat (first | exact (Kd.S_reads' HO_148000.out).2.2 | (with_reducible refine Kd.C_alloc ?_ _) | (with_reducible refine Kd.C_drewN ?_ _) | (with_reducible refine Kd.C_drew ?_))); (case side4 => exact (Kd.S_reads' HO_148000.out).2.1); (case side5 => repeat (first | exact (Kd.S_reads' HO_142000.out).2.2 | (with_reducible refine Kd.C_alloc ?_ _) | (with_reducible refine Kd.C_drewN ?_ _) | (with_reducible refine Kd.C_drew ?_))); (case side6 => exact (Kd.S_reads' HO_142000.out).2.1); (case side7 => repeat (first | exact (Kd.R_reads' HO_146000.out).2.2 | (with_reducible refine Kd.C_alloc ?_ _) | (with_reducible refine Kd.C_drewN ?_ _) | (with_reducible refine Kd.C_drew ?_))); (case side8 => exact (Kd.R_reads' HO_146000.out).2.1); (case side9 => exact (by (with_reducible repeat (first | refine blk_drewN ?_ _ | refine blk_drew ?_ | refine blk_alloc ?_ _)); exact BK167.out)); (case side10 => exact (by (with_reducible repeat (first | refine blk_drewN ?_ _ | refine blk_drew ?_ | refine blk_alloc ?_ _)); exact BK147.out)); (case side11 => exact (by (with_reducible repeat (first | refine blk_drewN ?_ _ | refine blk_drew ?_ | refine blk_alloc ?_ _)); exact BK141.out)); (case side12 => exact (by (with_reducible repeat (first | refine blk_drewN ?_ _ | refine blk_drew ?_ | refine blk_alloc ?_ _)); exact BK145.out)); rintro e w131 ⟨rfl, hb⟩; have n0_ := Aside0.mk (Kd.S_below (by (with_reducible repeat (first | apply Kd.S_alloc | apply Kd.S_drewN | apply Kd.S_drew)); exact HO_142000.out) hb); have n1_ := Aside0.mk (Kd.R_below (by (with_reducible repeat (first | apply Kd.R_alloc | apply Kd.R_drewN | apply Kd.R_drew)); exact HO_146000.out) hb); have n2_ := Aside0.mk (Kd.S_below (by (with_reducible repeat (first | apply Kd.S_alloc | apply Kd.S_drewN | apply Kd.S_drew)); exact HO_148000.out) hb); have n3_ := Aside0.mk (Kd.R_below (by (with_reducible repeat (first | apply Kd.R_alloc | apply Kd.R_drewN | apply Kd.R_drew)); exact HO_168000.out) hb); have n4_ := Aside0.mk (blk_below (g := gb141) (o := .cells #[.slice Ao12 t135.length co12] 63 (0, 0)) (by (with_reducible repeat (first | refine blk_drewN ?_ _ | refine blk_drew ?_ | refine blk_alloc ?_ _)); exact BK141.out) hb); have n5_ := Aside0.mk (blk_below (g := gb145) (o := .cells #[.slice Ao130 x146000_5.length co130] 56 (0, 0)) (by (with_reducible repeat (first | refine blk_drewN ?_ _ | refine blk_drew ?_ | refine blk_alloc ?_ _)); exact BK145.out) hb); have n6_ := Aside0.mk (blk_below (g := gb147) (o := .cells #[.slice Ao86 x148000_2.length co86] 63 (0, 0)) (by (with_reducible repeat (first | refine blk_drewN ?_ _ | refine blk_drew ?_ | refine blk_alloc ?_ _)); exact BK147.out) hb); have n7_ := Aside0.mk (blk_below (g := gb167) (o := .cells #[.slice Ao129 x168000_5.length co129] 56 (0, 0)) (by (with_reducible repeat (first | refine blk_drewN ?_ _ | refine blk_drew ?_ | refine blk_alloc ?_ _)); exact BK167.out) hb); have n8_ := Aside0.mk (below_step (by repeat (first | (with_reducible first | exact HB.out | apply below_alloc | apply pw_below_drewN | apply below_drew1 | refine below_set ?_ GE141.out | refine below_set ?_ GE145.out | refine below_set ?_ GE147.out | refine below_set ?_ GE167.out) | exact HB.out)) hb); clear HO_142000; clear HO_146000; clear HO_148000; clear HO_168000; clear BK141; clear BK145; clear BK147; clear BK167; clear HB; have HO_142000 := n0_; have HO_146000 := n1_; have HO_148000 := n2_; have HO_168000 := n3_; have BK141 := n4_; have BK145 := n5_; have BK147 := n6_; have BK167 := n7_; have HB := n8_; clear n0_ n1_ n2_ n3_ n4_ n5_ n6_ n7_ n8_; (try clear hb); (try clear hb2); (try clear hk); (try clear hi)))
   repeat (go_step3; try go_wp2_with (fail))
   (try (simp only [Exit.noGoto_normal, Exit.noGoto_exit, Exit.noGoto_ret]; try go_wp2_with (fail)))
   go_roundg k5
   case measure => have := HK1.out; have := HK2.out; have := HK3.out; have := HK4.out; have := HK5.out; omega
   case rel => exact ⟨(wrap64 (x106_5 + 1)), (x146000_5), (x168000_5), (.slice Ao130 x146000_5.length co130), (.slice Ao129 x168000_5.length co129), (by first | rfl | (simp; done) | (simp [*]; done)), H', ⟨by have := HK1.out; have := HK2.out; have := HK3.out; have := HK4.out; have := HK5.out; omega⟩, ⟨by (with_reducible repeat (first | apply Kd.S_alloc | apply Kd.S_drewN | apply Kd.S_drew)); exact HO_142000.out⟩, ⟨by (with_reducible repeat (first | apply Kd.R_alloc | apply Kd.R_drewN | apply Kd.R_drew)); exact HO_146000.out⟩, ⟨by (with_reducible repeat (first | apply Kd.S_alloc | apply Kd.S_drewN | apply Kd.S_drew)); exact HO_148000.out⟩, ⟨by (with_reducible repeat (first | apply Kd.R_alloc | apply Kd.R_drewN | apply Kd.R_drew)); exact HO_168000.out⟩, ⟨by (with_reducible repeat (first | refine blk_drewN ?_ _ | refine blk_drew ?_ | refine blk_alloc ?_ _)); exact BK141.out⟩, ⟨by (with_reducible repeat (first | refine blk_drewN ?_ _ | refine blk_drew ?_ | refine blk_alloc ?_ _)); exact BK145.out⟩, ⟨by (with_reducible repeat (first | refine blk_drewN ?_ _ | refine blk_drew ?_ | refine blk_alloc ?_ _)); exact BK147.out⟩, ⟨by (with_reducible repeat (first | refine blk_drewN ?_ _ | refine blk_drew ?_ | refine blk_alloc ?_ _)); exact BK167.out⟩, ⟨by repeat (first | (with_reducible first | exact HB.out | apply below_alloc | apply pw_below_drewN | apply below_drew1 | refine below_set ?_ GE141.out | refine below_set ?_ GE145.out | refine below_set ?_ GE147.out | refine below_set ?_ GE167.out) | exact HB.out)⟩⟩
  subst c116
  rw [if_pos rfl] at H
  by_cases c117 : 0 ≤ x106_5
  case neg => rw [if_neg c117] at H; exact absurd H (by simp)
  rw [if_pos c117] at H
  have c117b0 := decide_eq_true c117
  clear c117
  by_cases c118 : x106_5 < (x168000_5.length : Int)
  case neg => rw [if_neg c118] at H; exact absurd H (by simp)
  rw [if_pos c118] at H
  have c118b0 := decide_eq_true c118
  clear c118
  obtain ⟨y170, hy170⟩ : ∃ y_ : List Int, y_ = (x168000_5.set (x106_5 : Int).toNat x101_4) := ⟨_, rfl⟩
  replace H : (comps_Comps.l4 k5 t134 (x148000_2.length : Int) (wrap64 (x101_4 + 1)) t135 x146000_5 x148000_2 y170) = some r := by first | (rw [hy170]; with_reducible exact H) | (have H2_ := (Option.bind_some _ _).symm.trans H; rw [hy170]; with_reducible exact H2_) | (have H2_ := (Option.bind_some _ _).symm.trans H; with_reducible exact H2_) | with_reducible exact H | (rw [hy170]; exact H) | exact H
  have Ny170 := Aside0.mk hy170
  clear hy170
  have H' := Aside0.mk H
  clear H
  obtain ⟨Ao120, co120, eo120⟩ := Kd.R_slice HO_168000.out
  subst eo120
  obtain ⟨Ao121, co121, eo121⟩ := Kd.R_slice HO_146000.out
  subst eo121
  go_wp2_with (first | (go_at_call 37; (with_reducible refine (comps_free.calls x106_5 gb167 Ao120 co120 x168000_5 gb147 Ao86 co86 x148000_2 gb141 Ao12 co12 t135 gb145 Ao121 co121 x146000_5 true _ ?side1 ?side2 ?side3 ?side4 ?side5 ?side6 ?side7 ?side8 ?side9 ?side10 ?side11 ?side12 A115.out).mono ?_); (case side1 => repeat (first | exact (Kd.R_reads' HO_168000.out).2.2 | (with_reducible refine Kd.C_alloc ?_ _) | (with_reducible refine Kd.C_drewN ?_ _) | (with_reducible refine Kd.C_drew ?_))); (case side2 => exact (Kd.R_reads' HO_168000.out).2.1); (case side3 => repeat (first | exact (Kd.S_reads' HO_148000.out).2.2 | (with_reducible refine Kd.C_alloc ?_ _) | (with_reducible refine Kd.C_drewN ?_ _) | (with_reducible refine Kd.C_drew ?_))); (case side4 => exact (Kd.S_reads' HO_148000.out).2.1); (case side5 => repeat (first | exact (Kd.S_reads' HO_142000.out).2.2 | (with_reducible refine Kd.C_alloc ?_ _) | (with_reducible refine Kd.C_drewN ?_ _) | (with_reducible refine Kd.C_drew ?_))); (case side6 => exact (Kd.S_reads' HO_142000.out).2.1); (case side7 => repeat (first | exact (Kd.R_reads' HO_146000.out).2.2 | (with_reducible refine Kd.C_alloc ?_ _) | (with_reducible refine Kd.C_drewN ?_ _) | (with_reducible refine Kd.C_drew ?_))); (case side8 => exact (Kd.R_reads' HO_146000.out).2.1); (case side9 => exact (by (with_reducible repeat (first | refine blk_drewN ?_ _ | refine blk_drew ?_ | refine blk_alloc ?_ _)); exact BK167.out)); (case side10 => exact (by (with_reducible repeat (first | refine blk_drewN ?_ _ | refine blk_drew ?_ | refine blk_alloc ?_ _)); exact BK147.out)); (case side11 => exact (by (with_reducible repeat (first | refine blk_drewN ?_ _ | refine blk_drew ?_ | refine blk_alloc ?_ _)); exact BK141.out)); (case side12 => exact (by (with_reducible repeat (first | refine blk_drewN ?_ _ | refine blk_drew ?_ | refine blk_alloc ?_ _)); exact BK145.out)); rintro e w122 ⟨rfl, hb⟩; have n0_ := Aside0.mk (Kd.S_below (by (with_reducible repeat (first | apply Kd.S_alloc | apply Kd.S_drewN | apply Kd.S_drew)); exact HO_142000.out) hb); have n1_ := Aside0.mk (Kd.R_below (by (with_reducible repeat (first | apply Kd.R_alloc | apply Kd.R_drewN | apply Kd.R_drew)); exact HO_146000.out) hb); have n2_ := Aside0.mk (Kd.S_below (by (with_reducible repeat (first | apply Kd.S_alloc | apply Kd.S_drewN | apply Kd.S_drew)); exact HO_148000.out) hb); have n3_ := Aside0.mk (Kd.R_below (by (with_reducible repeat (first | apply Kd.R_alloc | apply Kd.R_drewN | apply Kd.R_drew)); exact HO_168000.out) hb); have n4_ := Aside0.mk (blk_below (g := gb141) (o := .cells #[.slice Ao12 t135.length co12] 63 (0, 0)) (by (with_reducible repeat (first | refine blk_drewN ?_ _ | refine blk_drew ?_ | refine blk_alloc ?_ _)); exact BK141.out) hb); have n5_ := Aside0.mk (blk_below (g := gb145) (o := .cells #[.slice Ao121 x146000_5.length co121] 56 (0, 0)) (by (with_reducible repeat (first | refine blk_drewN ?_ _ | refine blk_drew ?_ | refine blk_alloc ?_ _)); exact BK145.out) hb); have n6_ := Aside0.mk (blk_below (g := gb147) (o := .cells #[.slice Ao86 x148000_2.length co86] 63 (0, 0)) (by (with_reducible repeat (first | refine blk_drewN ?_ _ | refine blk_drew ?_ | refine blk_alloc ?_ _)); exact BK147.out) hb); have n7_ := Aside0.mk (blk_below (g := gb167) (o := .cells #[.slice Ao120 x168000_5.length co120] 56 (0, 0)) (by (with_reducible repeat (first | refine blk_drewN ?_ _ | refine blk_drew ?_ | refine blk_alloc ?_ _)); exact BK167.out) hb); have n8_ := Aside0.mk (below_step (by repeat (first | (with_reducible first | exact HB.out | apply below_alloc | apply pw_below_drewN | apply below_drew1 | refine below_set ?_ GE141.out | refine below_set ?_ GE145.out | refine below_set ?_ GE147.out | refine below_set ?_ GE167.out) | exact HB.out)) hb); clear HO_142000; clear HO_146000; clear HO_148000; clear HO_168000; clear BK141; clear BK145; clear BK147; clear BK167; clear HB; have HO_142000 := n0_; have HO_146000 := n1_; have HO_148000 := n2_; have HO_168000 := n3_; have BK141 := n4_; have BK145 := n5_; have BK147 := n6_; have BK167 := n7_; have HB := n8_; clear n0_ n1_ n2_ n3_ n4_ n5_ n6_ n7_ n8_; (try clear hb); (try clear hb2); (try clear hk); (try clear hi); have hnb123 := NB167_141.out; have hnc123 := NB141_167.out; have hnb124 := NB167_145.out; have hnc124 := NB145_167.out; have hnb125 := NB167_147.out; have hnc125 := NB147_167.out; have hcz126_0 : w122.cell? ⟨gb167, 0, none⟩ = some (.slice Ao120 x168000_5.length co120) := (blk_cell BK167.out 0).trans rfl; have hfz126_0 := blk_frozen BK167.out 0; have p119 : 0 ≤ (x106_5 : Int) := of_decide_eq_true (by with_reducible assumption); have q119 : (x106_5 : Int) < ((x168000_5.length : Int) : Int) := of_decide_eq_true (by with_reducible assumption); obtain ⟨go119, co119, eo119, gb119, gl119, cl119, HG119⟩ := Kd.R_form HO_168000.out (by omega); (first | cases eo119 | (injection eo119 with ea_ en_ ec_; (first | subst ea_ | (injection ea_ with ea_; subst ea_)); subst ec_; clear en_)); have GB119 := Aside0.mk gb119; have GG119 := Aside0.mk HG119; clear gb119 gl119 HG119; obtain ⟨hx119_0, hf119_0⟩ := Kd.R_celln 0 HO_168000.out (x106_5 : Int) p119 q119; replace p119 := eq_true p119; replace q119 := eq_true q119; obtain ⟨hy127_, hz127_⟩ := Kd.R_celln 0 HO_168000.out (x106_5 : Int) (of_decide_eq_true (by with_reducible assumption)) (of_decide_eq_true (by with_reducible assumption)); have HP127 := Kd.R_putg HO_168000.out (x106_5 : Int) x101_4) | ((with_reducible refine gate_store (t := 3) (p := 115) rfl ?_); refine store_event (t := 3) (p := 115) (v := ?vo_w128) (w1 := (w122.setCell ⟨go119, (x106_5 : Int).toNat, none⟩ (.int .i64 x101_4))) ?hg ?ho ?hn ?hr ?_; (case ho => rfl); (case hg => rfl); (case hn => rfl); (case hr => first | (go_simp; done) | (go_simp; rfl)); intro w128 hw; have hg : w122.grownBy w128 (some go119) := (by rw [hw]; exact HP127.2); have hp_ : Kd.R (Kd.int .i64) 3 w128 w.heap.size (fun k_ => some k_ ≠ (.slice Ao121 x146000_5.length co121 : Value).ownBlock) (.slice (some ⟨go119, 0, none⟩) x168000_5.length co120) y170 := (by rw [hw, Ny170.out]; exact HP127.1); clear HP127; have n0_ := Aside0.mk (Kd.S_after (v := (.slice (some ⟨go119, 0, none⟩) x168000_5.length co120)) (v1 := (.slice (some ⟨go119, 0, none⟩) x168000_5.length co120)) (ok := (fun k_ => some k_ ≠ (.slice Ao121 x146000_5.length co121 : Value).ownBlock ∧ some k_ ≠ (.slice Ao86 x148000_2.length co86 : Value).ownBlock ∧ k_ ≠ gb145 ∧ k_ ≠ gb167)) (by (with_reducible repeat (first | apply Kd.S_alloc | apply Kd.S_drewN | apply Kd.S_drew)); exact Kd.S_mono HO_142000.out (fun _ hk => ⟨⟨hk.1, ⟨hk.2.1, ⟨hk.2.2.2.1, hk.2.2.2.2⟩⟩⟩, hk.2.2.1⟩)) hg (.inl rfl)); have n1_ := Aside0.mk (Kd.R_after (v := (.slice (some ⟨go119, 0, none⟩) x168000_5.length co120)) (v1 := (.slice (some ⟨go119, 0, none⟩) x168000_5.length co120)) (ok := (fun _ => True)) (by (with_reducible repeat (first | apply Kd.R_alloc | apply Kd.R_drewN | apply Kd.R_drew)); exact Kd.R_mono HO_146000.out (fun _ hk => ⟨trivial, hk⟩)) hg (.inl rfl)); have n2_ := Aside0.mk (Kd.S_after (v := (.slice (some ⟨go119, 0, none⟩) x168000_5.length co120)) (v1 := (.slice (some ⟨go119, 0, none⟩) x168000_5.length co120)) (ok := (fun k_ => some k_ ≠ (.slice Ao12 t135.length co12 : Value).ownBlock ∧ some k_ ≠ (.slice Ao121 x146000_5.length co121 : Value).ownBlock ∧ k_ ≠ gb145 ∧ k_ ≠ gb167)) (by (with_reducible repeat (first | apply Kd.S_alloc | apply Kd.S_drewN | apply Kd.S_drew)); exact Kd.S_mono HO_148000.out (fun _ hk => ⟨⟨hk.1, ⟨hk.2.1, ⟨hk.2.2.2.1, hk.2.2.2.2⟩⟩⟩, hk.2.2.1⟩)) hg (.inl rfl)); have n3_ := Aside0.mk (hp_); have n4_ := Aside0.mk (blk_grown (g := gb141) (o := .cells #[.slice Ao12 t135.length co12] 63 (0, 0)) (by (with_reducible repeat (first | refine blk_drewN ?_ _ | refine blk_drew ?_ | refine blk_alloc ?_ _)); exact BK141.out) hg (Kd.R_ne HO_168000.out BK141.out (by decide))); have n5_ := Aside0.mk (blk_grown (g := gb145) (o := .cells #[.slice Ao121 x146000_5.length co121] 56 (0, 0)) (by (with_reducible repeat (first | refine blk_drewN ?_ _ | refine blk_drew ?_ | refine blk_alloc ?_ _)); exact BK145.out) hg (Kd.R_ne HO_168000.out BK145.out (by decide))); have n6_ := Aside0.mk (blk_grown (g := gb147) (o := .cells #[.slice Ao86 x148000_2.length co86] 63 (0, 0)) (by (with_reducible repeat (first | refine blk_drewN ?_ _ | refine blk_drew ?_ | refine blk_alloc ?_ _)); exact BK147.out) hg (Kd.R_ne HO_168000.out BK147.out (by decide))); have n7_ := Aside0.mk (blk_grown (g := gb167) (o := .cells #[.slice (some ⟨go119, 0, none⟩) x168000_5.length co120] 56 (0, 0)) (by (with_reducible repeat (first | refine blk_drewN ?_ _ | refine blk_drew ?_ | refine blk_alloc ?_ _)); exact BK167.out) hg (Kd.R_ne HO_168000.out BK167.out (by decide))); have n8_ := Aside0.mk ((by rw [hw]; exact below_set (HB.out) GB119.out : Below w.heap.size w w128)); clear HO_142000; clear HO_146000; clear HO_148000; clear HO_168000; clear BK141; clear BK145; clear BK147; clear BK167; clear HB; have HO_142000 := n0_; have HO_146000 := n1_; have HO_148000 := n2_; have HO_168000 := n3_; have BK141 := n4_; have BK145 := n5_; have BK147 := n6_; have BK167 := n7_; have HB := n8_; clear n0_ n1_ n2_ n3_ n4_ n5_ n6_ n7_ n8_; clear hg hw hp_))
  repeat (go_step3; try go_wp2_with (fail))
  (try (simp only [Exit.noGoto_normal, Exit.noGoto_exit, Exit.noGoto_ret]; try go_wp2_with (fail)))
  go_roundg k5
  case measure => have := HK1.out; have := HK2.out; have := HK3.out; have := HK4.out; have := HK5.out; omega
  case rel => exact ⟨(wrap64 (x101_4 + 1)), (x146000_5), (y170), (.slice Ao121 x146000_5.length co121), (.slice (some ⟨go119, 0, none⟩) x168000_5.length co120), (by first | rfl | (simp; done) | (simp [*]; done)), H', ⟨by have := HK1.out; have := HK2.out; have := HK3.out; have := HK4.out; have := HK5.out; omega⟩, ⟨by (with_reducible repeat (first | apply Kd.S_alloc | apply Kd.S_drewN | apply Kd.S_drew)); exact Kd.S_mono HO_142000.out (fun _ hk => ⟨hk.1.1, ⟨hk.1.2.1, ⟨hk.2, ⟨hk.1.2.2.1, hk.1.2.2.2⟩⟩⟩⟩)⟩, ⟨by (with_reducible repeat (first | apply Kd.R_alloc | apply Kd.R_drewN | apply Kd.R_drew)); exact Kd.R_mono HO_146000.out (fun _ hk => hk.2)⟩, ⟨by (with_reducible repeat (first | apply Kd.S_alloc | apply Kd.S_drewN | apply Kd.S_drew)); exact Kd.S_mono HO_148000.out (fun _ hk => ⟨hk.1.1, ⟨hk.1.2.1, ⟨hk.2, ⟨hk.1.2.2.1, hk.1.2.2.2⟩⟩⟩⟩)⟩, ⟨by (with_reducible repeat (first | apply Kd.R_alloc | apply Kd.R_drewN | apply Kd.R_drew)); exact HO_168000.out⟩, ⟨by (with_reducible repeat (first | refine blk_drewN ?_ _ | refine blk_drew ?_ | refine blk_alloc ?_ _)); exact BK141.out⟩, ⟨by (with_reducible repeat (first | refine blk_drewN ?_ _ | refine blk_drew ?_ | refine blk_alloc ?_ _)); exact BK145.out⟩, ⟨by (with_reducible repeat (first | refine blk_drewN ?_ _ | refine blk_drew ?_ | refine blk_alloc ?_ _)); exact BK147.out⟩, ⟨by (with_reducible repeat (first | refine blk_drewN ?_ _ | refine blk_drew ?_ | refine blk_alloc ?_ _)); exact BK167.out⟩, ⟨by repeat (first | (with_reducible first | exact HB.out | apply below_alloc | apply pw_below_drewN | apply below_drew1 | refine below_set ?_ GE141.out | refine below_set ?_ GE145.out | refine below_set ?_ GE147.out | refine below_set ?_ GE167.out) | exact HB.out)⟩⟩
 rw [if_neg c109] at H
 have c109b0 := decide_eq_false c109
 clear c109
 by_cases c132 : 0 ≤ t134
 case neg => rw [if_neg c132] at H; exact absurd H (by simp)
 rw [if_pos c132] at H
 have c132b0 := eq_true c132
 have c132b1 := decide_eq_true c132
 clear c132
 by_cases c133 : (t134 : Int).toNat ≤ 35184372088832
 case neg => rw [if_neg c133] at H; exact absurd H (by simp)
 rw [if_pos c133] at H
 have c133b0 := eq_true c133
 have c133b1 := decide_eq_true c133
 clear c133
 obtain ⟨y171, hy171⟩ : ∃ y_ : List Int, y_ = (List.replicate (t134 : Int).toNat 0) := ⟨_, rfl⟩
 replace H : (comps_Comps.l6 k4 y171 x146000_4 (x146000_4.length : Int) 0 x168000_4) = some r := by first | (rw [hy171]; with_reducible exact H) | (have H2_ := (Option.bind_some _ _).symm.trans H; rw [hy171]; with_reducible exact H2_) | (have H2_ := (Option.bind_some _ _).symm.trans H; with_reducible exact H2_) | with_reducible exact H | (rw [hy171]; exact H) | exact H
 have Ny171 := Aside0.mk hy171
 clear hy171
 have H' := Aside0.mk H
 clear H
 go_wp2_with (first | ((with_reducible refine gate_dst (N := 119) rfl ?_); refine Kd.R_make (Kd.int .i64) _ 3 rfl (N := 119) rfl 56 _ _ rfl t134 rfl rfl Try.underlying56 (.int .i64 0) 8 info3 rfl (by decide) (by omega) 0 (ok := fun _ => True) (okp := fun _ => True) rfl (fun _ hk => hk) trivial (of_decide_eq_true (by with_reducible assumption)) (Nat.le_trans (Nat.mul_le_mul_right _ (of_decide_eq_true (by with_reducible assumption) : t134.toNat ≤ 35184372088832)) (by omega)) (Below.refl _ _) (Nat.le_refl _) ?_; intro v172 w134 ho135 hb hg_ hnew_; clear hg_ hnew_; (first | rw [← Ny171.out] at ho135 | (simp only [Int.reduceToNat] at ho135; rw [← Ny171.out] at ho135)); have n0_ := Aside0.mk (Kd.S_elder' (by (with_reducible repeat (first | apply Kd.S_alloc | apply Kd.S_drewN | apply Kd.S_drew)); exact HO_142000.out) (Kd.R_base ho135) hb); have n1_ := Aside0.mk (Kd.R_elder' (by (with_reducible repeat (first | apply Kd.R_alloc | apply Kd.R_drewN | apply Kd.R_drew)); exact HO_146000.out) (Kd.R_base ho135) hb); have n2_ := Aside0.mk (Kd.S_elder' (by (with_reducible repeat (first | apply Kd.S_alloc | apply Kd.S_drewN | apply Kd.S_drew)); exact HO_148000.out) (Kd.R_base ho135) hb); have n3_ := Aside0.mk (Kd.R_elder' (by (with_reducible repeat (first | apply Kd.R_alloc | apply Kd.R_drewN | apply Kd.R_drew)); exact HO_168000.out) (Kd.R_base ho135) hb); have n4_ := Aside0.mk (Kd.R_lower (Kd.R_new' (Kd.R_new' ho135 (Kd.R_lt (by (with_reducible repeat (first | apply Kd.R_alloc | apply Kd.R_drewN | apply Kd.R_drew)); exact HO_146000.out))) (Kd.R_lt (by (with_reducible repeat (first | apply Kd.R_alloc | apply Kd.R_drewN | apply Kd.R_drew)); exact HO_168000.out))) (below_size (by repeat (first | (with_reducible first | exact HB.out | apply below_alloc | apply pw_below_drewN | apply below_drew1 | refine below_set ?_ GE141.out | refine below_set ?_ GE145.out | refine below_set ?_ GE147.out | refine below_set ?_ GE167.out) | exact HB.out)))); have n5_ := Aside0.mk (blk_below (g := gb141) (o := .cells #[.slice Ao12 t135.length co12] 63 (0, 0)) (by (with_reducible repeat (first | refine blk_drewN ?_ _ | refine blk_drew ?_ | refine blk_alloc ?_ _)); exact BK141.out) hb); have n6_ := Aside0.mk (blk_below (g := gb145) (o := .cells #[u146000] 56 (0, 0)) (by (with_reducible repeat (first | refine blk_drewN ?_ _ | refine blk_drew ?_ | refine blk_alloc ?_ _)); exact BK145.out) hb); have n7_ := Aside0.mk (blk_below (g := gb147) (o := .cells #[.slice Ao86 x148000_2.length co86] 63 (0, 0)) (by (with_reducible repeat (first | refine blk_drewN ?_ _ | refine blk_drew ?_ | refine blk_alloc ?_ _)); exact BK147.out) hb); have n8_ := Aside0.mk (blk_below (g := gb167) (o := .cells #[u168000] 56 (0, 0)) (by (with_reducible repeat (first | refine blk_drewN ?_ _ | refine blk_drew ?_ | refine blk_alloc ?_ _)); exact BK167.out) hb); have n9_ := Aside0.mk (below_step (by repeat (first | (with_reducible first | exact HB.out | apply below_alloc | apply pw_below_drewN | apply below_drew1 | refine below_set ?_ GE141.out | refine below_set ?_ GE145.out | refine below_set ?_ GE147.out | refine below_set ?_ GE167.out) | exact HB.out)) hb); clear HO_142000; clear HO_146000; clear HO_148000; clear HO_168000; clear BK141; clear BK145; clear BK147; clear BK167; clear HB; have HO_142000 := n0_; have HO_146000 := n1_; have HO_148000 := n2_; have HO_168000 := n3_; have HO173 := n4_; have BK141 := n5_; have BK145 := n6_; have BK147 := n7_; have BK167 := n8_; have HB := n9_; clear n0_ n1_ n2_ n3_ n4_ n5_ n6_ n7_ n8_ n9_; clear hb ho135; have hnb136 := NB145_141.out; have hnc136 := NB141_145.out; have hnb137 := NB145_147.out; have hnc137 := NB147_145.out; have hnb138 := NB145_167.out; have hnc138 := NB167_145.out; have hcz139_0 : w134.cell? ⟨gb145, 0, none⟩ = some (u146000) := (blk_cell BK145.out 0).trans rfl; have hfz139_0 := blk_frozen BK145.out 0; obtain ⟨Ao140, co140, eo140⟩ := Kd.R_slice HO_146000.out; subst eo140))
 repeat (go_step3; try go_wp2_with (fail))
 (try (simp only [Exit.noGoto_normal, Exit.noGoto_exit, Exit.noGoto_ret]; try go_wp2_with (fail)))
 go_loopg [122] k4 (fun kq v122 w' => ∃ (x20_5 : List Int) (x122_5 : Int), v122 = .int .i64 x122_5 ∧ Aside0 (comps_Comps.l6 kq x20_5 x146000_4 (x146000_4.length : Int) x122_5 x168000_4 = some r) ∧ Aside0 (kq ≤ k4) ∧ Aside0 (Kd.R (Kd.int .i64) 3 w' w.heap.size (fun k_ => some k_ ≠ ((.slice Ao140 x146000_4.length co140) : Value).ownBlock ∧ some k_ ≠ ((.slice Ao140 x146000_4.length co140) : Value).ownBlock ∧ some k_ ≠ (u168000 : Value).ownBlock) v172 x20_5) ∧ Aside0 (Kd.R (Kd.int .i64) 3 w' w.heap.size (fun k_ => some k_ ≠ (v172 : Value).ownBlock ∧ some k_ ≠ (u168000 : Value).ownBlock) (.slice Ao140 x146000_4.length co140) x146000_4) ∧ Aside0 (Kd.S (Kd.slice 3 (Kd.int .i64)) 56 w' w.heap.size (fun k_ => some k_ ≠ (v172 : Value).ownBlock ∧ some k_ ≠ ((.slice Ao140 x146000_4.length co140) : Value).ownBlock ∧ some k_ ≠ ((.slice Ao140 x146000_4.length co140) : Value).ownBlock ∧ some k_ ≠ ((.slice Ao86 x148000_2.length co86) : Value).ownBlock ∧ some k_ ≠ (u168000 : Value).ownBlock ∧ k_ ≠ gb145 ∧ k_ ≠ gb167) (.slice Ao12 t135.length co12) t135) ∧ Aside0 (Kd.R (Kd.int .i64) 3 w' w.heap.size (fun k_ => some k_ ≠ (v172 : Value).ownBlock ∧ some k_ ≠ (u168000 : Value).ownBlock) (.slice Ao140 x146000_4.length co140) x146000_4) ∧ Aside0 (Kd.S (Kd.slice 3 (Kd.int .i64)) 56 w' w.heap.size (fun k_ => some k_ ≠ (v172 : Value).ownBlock ∧ some k_ ≠ ((.slice Ao140 x146000_4.length co140) : Value).ownBlock ∧ some k_ ≠ ((.slice Ao12 t135.length co12) : Value).ownBlock ∧ some k_ ≠ ((.slice Ao140 x146000_4.length co140) : Value).ownBlock ∧ some k_ ≠ (u168000 : Value).ownBlock ∧ k_ ≠ gb145 ∧ k_ ≠ gb167) (.slice Ao86 x148000_2.length co86) x148000_2) ∧ Aside0 (Kd.R (Kd.int .i64) 3 w' w.heap.size (fun k_ => some k_ ≠ (v172 : Value).ownBlock ∧ some k_ ≠ ((.slice Ao140 x146000_4.length co140) : Value).ownBlock ∧ some k_ ≠ ((.slice Ao140 x146000_4.length co140) : Value).ownBlock) u168000 x168000_4) ∧ Aside0 (w'.heap[gb141]? = some (.cells #[(.slice Ao12 t135.length co12)] 63 (0, 0))) ∧ Aside0 (w'.heap[gb145]? = some (.cells #[(.slice Ao140 x146000_4.length co140)] 56 (0, 0))) ∧ Aside0 (w'.heap[gb147]? = some (.cells #[(.slice Ao86 x148000_2.length co86)] 63 (0, 0))) ∧ Aside0 (w'.heap[gb167]? = some (.cells #[u168000] 56 (0, 0))) ∧ Aside0 (Below w.heap.size w w'))
 case atStart => exact ⟨(y171), (0), (by first | rfl | (simp; done) | (simp [*]; done)), H', ⟨Nat.le_refl _⟩, ⟨by (with_reducible repeat (first | apply Kd.R_alloc | apply Kd.R_drewN | apply Kd.R_drew)); exact Kd.R_mono HO173.out (fun _ hk => ⟨hk.1.2, ⟨hk.1.2, hk.2⟩⟩)⟩, ⟨by (with_reducible repeat (first | apply Kd.R_alloc | apply Kd.R_drewN | apply Kd.R_drew)); exact Kd.R_mono HO_146000.out (fun _ hk => ⟨hk.2, hk.1⟩)⟩, ⟨by (with_reducible repeat (first | apply Kd.S_alloc | apply Kd.S_drewN | apply Kd.S_drew)); exact Kd.S_mono HO_142000.out (fun _ hk => ⟨hk.2, ⟨hk.1.1, ⟨hk.1.1, ⟨hk.1.2.1, ⟨hk.1.2.2.1, ⟨hk.1.2.2.2.1, hk.1.2.2.2.2⟩⟩⟩⟩⟩⟩)⟩, ⟨by (with_reducible repeat (first | apply Kd.R_alloc | apply Kd.R_drewN | apply Kd.R_drew)); exact Kd.R_mono HO_146000.out (fun _ hk => ⟨hk.2, hk.1⟩)⟩, ⟨by (with_reducible repeat (first | apply Kd.S_alloc | apply Kd.S_drewN | apply Kd.S_drew)); exact Kd.S_mono HO_148000.out (fun _ hk => ⟨hk.2, ⟨hk.1.2.1, ⟨hk.1.1, ⟨hk.1.2.1, ⟨hk.1.2.2.1, ⟨hk.1.2.2.2.1, hk.1.2.2.2.2⟩⟩⟩⟩⟩⟩)⟩, ⟨by (with_reducible repeat (first | apply Kd.R_alloc | apply Kd.R_drewN | apply Kd.R_drew)); exact Kd.R_mono HO_168000.out (fun _ hk => ⟨hk.2, ⟨hk.1, hk.1⟩⟩)⟩, ⟨by (with_reducible repeat (first | refine blk_drewN ?_ _ | refine blk_drew ?_ | refine blk_alloc ?_ _)); exact BK141.out⟩, ⟨by (with_reducible repeat (first | refine blk_drewN ?_ _ | refine blk_drew ?_ | refine blk_alloc ?_ _)); exact BK145.out⟩, ⟨by (with_reducible repeat (first | refine blk_drewN ?_ _ | refine blk_drew ?_ | refine blk_alloc ?_ _)); exact BK147.out⟩, ⟨by (with_reducible repeat (first | refine blk_drewN ?_ _ | refine blk_drew ?_ | refine blk_alloc ?_ _)); exact BK167.out⟩, ⟨by repeat (first | (with_reducible first | exact HB.out | apply below_alloc | apply pw_below_drewN | apply below_drew1 | refine below_set ?_ GE141.out | refine below_set ?_ GE145.out | refine below_set ?_ GE147.out | refine below_set ?_ GE167.out) | exact HB.out)⟩⟩
 clear H'
 try clear c1
 try clear p1
 try clear q1
 try clear hx1
 try clear c2
 try clear p2
 try clear q2
 try clear hx2
 try clear hf2
 try clear c3
 try clear p3
 try clear c4
 try clear c5
 try clear p5
 try clear q5
 try clear hx5
 try clear hf5
 try clear c6
 try clear c6b0
 try clear c6b1
 try clear p6
 try clear c7
 try clear c7b0
 try clear c7b1
 try clear c8
 try clear c9
 try clear p9
 try clear q9
 try clear hx9
 try clear hf9
 try clear c10
 try clear c11
 try clear p11
 try clear q11
 try clear hx11
 try clear hf11
 try clear c12
 try clear c13
 try clear p14
 try clear q14
 try clear hx14
 try clear p15
 try clear q15
 try clear hx15
 try clear c18
 try clear c19
 try clear c20
 try clear c20b0
 try clear c21
 try clear c21b0
 try clear c22
 try clear c22b0
 try clear p23
 try clear q23
 try clear hx23
 try clear hf23
 try clear c24
 try clear c29
 try clear c29b0
 try clear c30
 try clear c30b0
 try clear c31
 try clear c31b0
 try clear c32
 try clear c32b0
 try clear c33
 try clear c34
 try clear c35
 try clear c36
 try clear c39
 try clear c40
 try clear c43
 try clear c48
 try clear c48b0
 try clear c49
 try clear c49b0
 try clear c50
 try clear c50b0
 try clear q51
 try clear c52
 try clear c53
 try clear c53b0
 try clear q54
 try clear c55
 try clear c56
 try clear c56b0
 try clear p57
 try clear q57
 try clear hx57
 try clear hf57
 try clear c58
 try clear c61
 try clear c62
 try clear c64
 try clear p64
 try clear c73
 try clear c74
 try clear c75
 try clear c81
 try clear c81b0
 try clear c81b1
 try clear c82
 try clear c82b0
 try clear c82b1
 try clear c83
 try clear c84
 try clear c91
 try clear c92
 try clear c93
 try clear c95
 try clear c95b0
 try clear c96
 try clear c96b0
 try clear c97
 try clear c97b0
 try clear p98
 try clear q98
 try clear hx98
 try clear hf98
 try clear c99
 try clear c100
 try clear c101
 try clear c105
 try clear c106
 try clear c107
 try clear c109
 try clear c109b0
 try clear c110
 try clear c111
 try clear c112
 try clear c114
 try clear c114b0
 try clear c116
 try clear c117
 try clear c117b0
 try clear c118
 try clear c118b0
 try clear p119
 try clear q119
 try clear hx119
 try clear hf119
 try clear c123
 try clear c124
 try clear c125
 try clear c132
 try clear c132b0
 try clear c132b1
 try clear c133
 try clear c133b0
 try clear c133b1
 try clear c136
 try clear c137
 try clear c138
 try clear hcz102_0
 try clear hcz108_0
 try clear hcz113_0
 try clear hcz126_0
 try clear hcz139_0
 try clear hcz13_0
 try clear hcz19_0
 try clear hcz25_0
 try clear hcz35_0
 try clear hcz41_0
 try clear hcz44_0
 try clear hcz63_0
 try clear hcz65_0
 try clear hcz76_0
 try clear hcz80_0
 try clear hcz85_0
 try clear hcz94_0
 try clear hfz102_0
 try clear hfz108_0
 try clear hfz113_0
 try clear hfz126_0
 try clear hfz139_0
 try clear hfz13_0
 try clear hfz19_0
 try clear hfz25_0
 try clear hfz35_0
 try clear hfz41_0
 try clear hfz44_0
 try clear hfz63_0
 try clear hfz65_0
 try clear hfz76_0
 try clear hfz80_0
 try clear hfz85_0
 try clear hfz94_0
 try clear hx119_0
 try clear hx148_0
 try clear hx155_0
 try clear hx156_0
 try clear hx23_0
 try clear hx57_0
 try clear hx98_0
 try clear p1
 try clear p119
 try clear p14
 try clear p148
 try clear p15
 try clear p155
 try clear p156
 try clear p2
 try clear p23
 try clear p3
 try clear p5
 try clear p57
 try clear p6
 try clear p64
 try clear p9
 try clear p98
 try clear q1
 try clear q119
 try clear q14
 try clear q148
 try clear q15
 try clear q155
 try clear q156
 try clear q2
 try clear q23
 try clear q5
 try clear q51
 try clear q54
 try clear q57
 try clear q9
 try clear q98
 obtain ⟨x20_5, x122_5, rfl, HA, HK5, HO_20, HO_120, HO_142000, HO_146000, HO_148000, HO_168000, BK141, BK145, BK147, BK167, HB⟩ := hrel
 obtain _ | k5 := gk
 · exact absurd HA.out (by simp [comps_Comps.l6])
 have H := HA.out
 clear HA
 simp only [comps_Comps.l6] at H
 by_cases c141 : x122_5 < (x146000_4.length : Int)
 case neg =>
  rw [if_neg c141] at H
  have c141b0 := decide_eq_false c141
  clear c141
  obtain rfl := Option.some.inj H
  go_wp2
  repeat (go_step3; try go_wp2_with (fail))
  (try (simp only [Exit.noGoto_normal, Exit.noGoto_exit, Exit.noGoto_ret]; try go_wp2_with (fail)))
  go_ret
  exact ⟨_, by first | rfl | (simp [errW_none, errW_some] <;> rfl) | (simp [*, errW_none, errW_some] <;> rfl), by (with_reducible repeat (first | apply Kd.R_alloc | apply Kd.R_drewN | apply Kd.R_drew)); exact Kd.R_mono HO_20.out (fun _ hk => trivial), by repeat (first | (with_reducible first | exact HB.out | apply below_alloc | apply pw_below_drewN | apply below_drew1 | refine below_set ?_ GE141.out | refine below_set ?_ GE145.out | refine below_set ?_ GE147.out | refine below_set ?_ GE167.out) | exact HB.out)⟩
 rw [if_pos c141] at H
 have c141b0 := decide_eq_true c141
 clear c141
 by_cases c142 : 0 ≤ x122_5
 case neg => rw [if_neg c142] at H; exact absurd H (by simp)
 rw [if_pos c142] at H
 have c142b0 := decide_eq_true c142
 clear c142
 by_cases c143 : x122_5 < (x146000_4.length : Int)
 case neg => rw [if_neg c143] at H; exact absurd H (by simp)
 rw [if_pos c143] at H
 have c143b0 := decide_eq_true c143
 clear c143
 by_cases c144 : 0 ≤ (rd x146000_4 x122_5)
 case neg => rw [if_neg c144] at H; exact absurd H (by simp)
 rw [if_pos c144] at H
 have c144b0 := decide_eq_true c144
 clear c144
 by_cases c145 : (rd x146000_4 x122_5) < (x168000_4.length : Int)
 case neg => rw [if_neg c145] at H; exact absurd H (by simp)
 rw [if_pos c145] at H
 have c145b0 := decide_eq_true c145
 clear c145
 by_cases c146 : x122_5 < (x20_5.length : Int)
 case neg => rw [if_neg c146] at H; exact absurd H (by simp)
 rw [if_pos c146] at H
 have c146b0 := decide_eq_true c146
 clear c146
 obtain ⟨y176, hy176⟩ : ∃ y_ : List Int, y_ = (x20_5.set (x122_5 : Int).toNat (rd x168000_4 (rd x146000_4 x122_5))) := ⟨_, rfl⟩
 replace H : (comps_Comps.l6 k5 y176 x146000_4 (x146000_4.length : Int) (wrap64 (x122_5 + 1)) x168000_4) = some r := by first | (rw [hy176]; with_reducible exact H) | (have H2_ := (Option.bind_some _ _).symm.trans H; rw [hy176]; with_reducible exact H2_) | (have H2_ := (Option.bind_some _ _).symm.trans H; with_reducible exact H2_) | with_reducible exact H | (rw [hy176]; exact H) | exact H
 have Ny176 := Aside0.mk hy176
 clear hy176
 have H' := Aside0.mk H
 clear H
 have p174 : 0 ≤ (x122_5 : Int) := of_decide_eq_true (by with_reducible assumption)
 have q174 : x122_5 < (x146000_4.length : Int) := of_decide_eq_true (by with_reducible assumption)
 obtain ⟨ad174, e174, hx174_0⟩ := Kd.at_int (Kd.R_reads' HO_120.out).2.2 x122_5 p174 q174
 cases e174
 replace p174 := eq_true p174
 replace q174 := eq_true q174
 have hnb148 := NB167_141.out
 have hnc148 := NB141_167.out
 have hnb149 := NB167_145.out
 have hnc149 := NB145_167.out
 have hnb150 := NB167_147.out
 have hnc150 := NB147_167.out
 have hcz151_0 : wr.cell? ⟨gb167, 0, none⟩ = some (u168000) := (blk_cell BK167.out 0).trans rfl
 have hfz151_0 := blk_frozen BK167.out 0
 obtain ⟨Ao152, co152, eo152⟩ := Kd.R_slice HO_168000.out
 subst eo152
 have p175 : 0 ≤ ((rd x146000_4 x122_5) : Int) := of_decide_eq_true (by with_reducible assumption)
 have q175 : (rd x146000_4 x122_5) < (x168000_4.length : Int) := of_decide_eq_true (by with_reducible assumption)
 obtain ⟨ad175, e175, hx175_0⟩ := Kd.at_int (Kd.R_reads' HO_168000.out).2.2 (rd x146000_4 x122_5) p175 q175
 cases e175
 replace p175 := eq_true p175
 replace q175 := eq_true q175
 have p147 : 0 ≤ (x122_5 : Int) := of_decide_eq_true (by with_reducible assumption)
 have q147 : (x122_5 : Int) < ((x20_5.length : Int) : Int) := of_decide_eq_true (by with_reducible assumption)
 obtain ⟨go147, co147, eo147, gb147, gl147, cl147, HG147⟩ := Kd.R_form HO_20.out (by omega)
 (first | cases eo147 | (injection eo147 with ea_ en_ ec_; (first | subst ea_ | (injection ea_ with ea_; subst ea_)); subst ec_; clear en_))
 have GB147 := Aside0.mk gb147
 have GG147 := Aside0.mk HG147
 clear gb147 gl147 HG147
 obtain ⟨hx147_0, hf147_0⟩ := Kd.R_celln 0 HO_20.out (x122_5 : Int) p147 q147
 replace p147 := eq_true p147
 replace q147 := eq_true q147
 have HP153 := Kd.R_putg HO_20.out (x122_5 : Int) (rd x168000_4 (rd x146000_4 x122_5))
 go_wp2_with (first | ((with_reducible refine gate_store (t := 3) (p := 133) rfl ?_); refine store_event (t := 3) (p := 133) (v := ?vo_w154) (w1 := (wr.setCell ⟨go147, (x122_5 : Int).toNat, none⟩ (.int .i64 (rd x168000_4 (rd x146000_4 x122_5))))) ?hg ?ho ?hn ?hr ?_; (case ho => rfl); (case hg => rfl); (case hn => rfl); (case hr => first | (go_simp; done) | (go_simp; rfl)); intro w154 hw; have hg : wr.grownBy w154 (some go147) := (by rw [hw]; exact HP153.2); have hp_ : Kd.R (Kd.int .i64) 3 w154 w.heap.size (fun k_ => some k_ ≠ (.slice (some ad174) x146000_4.length co140 : Value).ownBlock ∧ some k_ ≠ (.slice (some ad174) x146000_4.length co140 : Value).ownBlock ∧ some k_ ≠ (.slice (some ad175) x168000_4.length co152 : Value).ownBlock) (.slice (some ⟨go147, 0, none⟩) x20_5.length co147) y176 := (by rw [hw, Ny176.out]; exact HP153.1); clear HP153; have n0_ := Aside0.mk (hp_); have n1_ := Aside0.mk (Kd.R_after (v := (.slice (some ⟨go147, 0, none⟩) x20_5.length co147)) (v1 := (.slice (some ⟨go147, 0, none⟩) x20_5.length co147)) (ok := (fun k_ => some k_ ≠ (.slice (some ad175) x168000_4.length co152 : Value).ownBlock)) (by (with_reducible repeat (first | apply Kd.R_alloc | apply Kd.R_drewN | apply Kd.R_drew)); exact Kd.R_mono HO_120.out (fun _ hk => ⟨hk.2, hk.1⟩)) hg (.inl rfl)); have n2_ := Aside0.mk (Kd.S_after (v := (.slice (some ⟨go147, 0, none⟩) x20_5.length co147)) (v1 := (.slice (some ⟨go147, 0, none⟩) x20_5.length co147)) (ok := (fun k_ => some k_ ≠ (.slice (some ad174) x146000_4.length co140 : Value).ownBlock ∧ some k_ ≠ (.slice (some ad174) x146000_4.length co140 : Value).ownBlock ∧ some k_ ≠ (.slice Ao86 x148000_2.length co86 : Value).ownBlock ∧ some k_ ≠ (.slice (some ad175) x168000_4.length co152 : Value).ownBlock ∧ k_ ≠ gb145 ∧ k_ ≠ gb167)) (by (with_reducible repeat (first | apply Kd.S_alloc | apply Kd.S_drewN | apply Kd.S_drew)); exact Kd.S_mono HO_142000.out (fun _ hk => ⟨⟨hk.2.1, ⟨hk.2.2.1, ⟨hk.2.2.2.1, ⟨hk.2.2.2.2.1, ⟨hk.2.2.2.2.2.1, hk.2.2.2.2.2.2⟩⟩⟩⟩⟩, hk.1⟩)) hg (.inl rfl)); have n3_ := Aside0.mk (Kd.R_after (v := (.slice (some ⟨go147, 0, none⟩) x20_5.length co147)) (v1 := (.slice (some ⟨go147, 0, none⟩) x20_5.length co147)) (ok := (fun k_ => some k_ ≠ (.slice (some ad175) x168000_4.length co152 : Value).ownBlock)) (by (with_reducible repeat (first | apply Kd.R_alloc | apply Kd.R_drewN | apply Kd.R_drew)); exact Kd.R_mono HO_146000.out (fun _ hk => ⟨hk.2, hk.1⟩)) hg (.inl rfl)); have n4_ := Aside0.mk (Kd.S_after (v := (.slice (some ⟨go147, 0, none⟩) x20_5.length co147)) (v1 := (.slice (some ⟨go147, 0, none⟩) x20_5.length co147)) (ok := (fun k_ => some k_ ≠ (.slice (some ad174) x146000_4.length co140 : Value).ownBlock ∧ some k_ ≠ (.slice Ao12 t135.length co12 : Value).ownBlock ∧ some k_ ≠ (.slice (some ad174) x146000_4.length co140 : Value).ownBlock ∧ some k_ ≠ (.slice (some ad175) x168000_4.length co152 : Value).ownBlock ∧ k_ ≠ gb145 ∧ k_ ≠ gb167)) (by (with_reducible repeat (first | apply Kd.S_alloc | apply Kd.S_drewN | apply Kd.S_drew)); exact Kd.S_mono HO_148000.out (fun _ hk => ⟨⟨hk.2.1, ⟨hk.2.2.1, ⟨hk.2.2.2.1, ⟨hk.2.2.2.2.1, ⟨hk.2.2.2.2.2.1, hk.2.2.2.2.2.2⟩⟩⟩⟩⟩, hk.1⟩)) hg (.inl rfl)); have n5_ := Aside0.mk (Kd.R_after (v := (.slice (some ⟨go147, 0, none⟩) x20_5.length co147)) (v1 := (.slice (some ⟨go147, 0, none⟩) x20_5.length co147)) (ok := (fun k_ => some k_ ≠ (.slice (some ad174) x146000_4.length co140 : Value).ownBlock ∧ some k_ ≠ (.slice (some ad174) x146000_4.length co140 : Value).ownBlock)) (by (with_reducible repeat (first | apply Kd.R_alloc | apply Kd.R_drewN | apply Kd.R_drew)); exact Kd.R_mono HO_168000.out (fun _ hk => ⟨⟨hk.2.1, hk.2.2⟩, hk.1⟩)) hg (.inl rfl)); have n6_ := Aside0.mk (blk_grown (g := gb141) (o := .cells #[.slice Ao12 t135.length co12] 63 (0, 0)) (by (with_reducible repeat (first | refine blk_drewN ?_ _ | refine blk_drew ?_ | refine blk_alloc ?_ _)); exact BK141.out) hg (Kd.R_ne HO_20.out BK141.out (by decide))); have n7_ := Aside0.mk (blk_grown (g := gb145) (o := .cells #[.slice (some ad174) x146000_4.length co140] 56 (0, 0)) (by (with_reducible repeat (first | refine blk_drewN ?_ _ | refine blk_drew ?_ | refine blk_alloc ?_ _)); exact BK145.out) hg (Kd.R_ne HO_20.out BK145.out (by decide))); have n8_ := Aside0.mk (blk_grown (g := gb147) (o := .cells #[.slice Ao86 x148000_2.length co86] 63 (0, 0)) (by (with_reducible repeat (first | refine blk_drewN ?_ _ | refine blk_drew ?_ | refine blk_alloc ?_ _)); exact BK147.out) hg (Kd.R_ne HO_20.out BK147.out (by decide))); have n9_ := Aside0.mk (blk_grown (g := gb167) (o := .cells #[.slice (some ad175) x168000_4.length co152] 56 (0, 0)) (by (with_reducible repeat (first | refine blk_drewN ?_ _ | refine blk_drew ?_ | refine blk_alloc ?_ _)); exact BK167.out) hg (Kd.R_ne HO_20.out BK167.out (by decide))); have n10_ := Aside0.mk ((by rw [hw]; exact below_set (HB.out) GB147.out : Below w.heap.size w w154)); clear HO_20; clear HO_120; clear HO_142000; clear HO_146000; clear HO_148000; clear HO_168000; clear BK141; clear BK145; clear BK147; clear BK167; clear HB; have HO_20 := n0_; have HO_120 := n1_; have HO_142000 := n2_; have HO_146000 := n3_; have HO_148000 := n4_; have HO_168000 := n5_; have BK141 := n6_; have BK145 := n7_; have BK147 := n8_; have BK167 := n9_; have HB := n10_; clear n0_ n1_ n2_ n3_ n4_ n5_ n6_ n7_ n8_ n9_ n10_; clear hg hw hp_))
 repeat (go_step3; try go_wp2_with (fail))
 (try (simp only [Exit.noGoto_normal, Exit.noGoto_exit, Exit.noGoto_ret]; try go_wp2_with (fail)))
 go_roundg k5
 case measure => have := HK1.out; have := HK2.out; have := HK3.out; have := HK4.out; have := HK5.out; omega
 case rel => exact ⟨(y176), (wrap64 (x122_5 + 1)), (by first | rfl | (simp; done) | (simp [*]; done)), H', ⟨by have := HK1.out; have := HK2.out; have := HK3.out; have := HK4.out; have := HK5.out; omega⟩, ⟨by (with_reducible repeat (first | apply Kd.R_alloc | apply Kd.R_drewN | apply Kd.R_drew)); exact HO_20.out⟩, ⟨by (with_reducible repeat (first | apply Kd.R_alloc | apply Kd.R_drewN | apply Kd.R_drew)); exact Kd.R_mono HO_120.out (fun _ hk => ⟨hk.2, hk.1⟩)⟩, ⟨by (with_reducible repeat (first | apply Kd.S_alloc | apply Kd.S_drewN | apply Kd.S_drew)); exact Kd.S_mono HO_142000.out (fun _ hk => ⟨hk.2, ⟨hk.1.1, ⟨hk.1.2.1, ⟨hk.1.2.2.1, ⟨hk.1.2.2.2.1, ⟨hk.1.2.2.2.2.1, hk.1.2.2.2.2.2⟩⟩⟩⟩⟩⟩)⟩, ⟨by (with_reducible repeat (first | apply Kd.R_alloc | apply Kd.R_drewN | apply Kd.R_drew)); exact Kd.R_mono HO_146000.out (fun _ hk => ⟨hk.2, hk.1⟩)⟩, ⟨by (with_reducible repeat (first | apply Kd.S_alloc | apply Kd.S_drewN | apply Kd.S_drew)); exact Kd.S_mono HO_148000.out (fun _ hk => ⟨hk.2, ⟨hk.1.1, ⟨hk.1.2.1, ⟨hk.1.2.2.1, ⟨hk.1.2.2.2.1, ⟨hk.1.2.2.2.2.1, hk.1.2.2.2.2.2⟩⟩⟩⟩⟩⟩)⟩, ⟨by (with_reducible repeat (first | apply Kd.R_alloc | apply Kd.R_drewN | apply Kd.R_drew)); exact Kd.R_mono HO_168000.out (fun _ hk => ⟨hk.2, ⟨hk.1.1, hk.1.2⟩⟩)⟩, ⟨by (with_reducible repeat (first | refine blk_drewN ?_ _ | refine blk_drew ?_ | refine blk_alloc ?_ _)); exact BK141.out⟩, ⟨by (with_reducible repeat (first | refine blk_drewN ?_ _ | refine blk_drew ?_ | refine blk_alloc ?_ _)); exact BK145.out⟩, ⟨by (with_reducible repeat (first | refine blk_drewN ?_ _ | refine blk_drew ?_ | refine blk_alloc ?_ _)); exact BK147.out⟩, ⟨by (with_reducible repeat (first | refine blk_drewN ?_ _ | refine blk_drew ?_ | refine blk_alloc ?_ _)); exact BK167.out⟩, ⟨by repeat (first | (with_reducible first | exact HB.out | apply below_alloc | apply pw_below_drewN | apply below_drew1 | refine below_set ?_ GE141.out | refine below_set ?_ GE145.out | refine below_set ?_ GE147.out | refine below_set ?_ GE167.out) | exact HB.out)⟩⟩
end Go.Proofs.Ytfkilcegdajdcaa.PZ
