
/- Printed by a turned copy of the printer (wip/mkprint.py): Go functions as Lean functions, with a proof of each. -/
import Derived.Test.YtfkilcegdajdcaaPZx0
namespace Go.Proofs.Ytfkilcegdajdcaa.PZ
open Go.RowKit Go.Proofs.YtfkilcegdajdcaaW.PrintWords Go.Proofs.YtfkilcegdajdcaaW.PrintLast Go.Proofs.YtfkilcegdajdcaaW.PrintMore
attribute [local go_sem] max2_int min2_int max_two min_two max_three min_three max_four min_four   -- for this text's walks alone
set_option linter.unusedVariables false
set_option linter.unusedSimpArgs false
mutual
def antecedentref09_Few.j0 : Nat → Int → Bool → List (S39) → ByteArray → List (S43) → Option (Bool)
  | 0, _, _, _, _, _ => none
  | k + 1, x2, x22, x265000, x265001, x265002 => if x22 = true then (some false) else (antecedentref09_Few.l0 k x2 0 (x265000.length : Int) 0 x265000 x265001 x265002)
def antecedentref09_Few.l0 : Nat → Int → Int → Int → Int → List (S39) → ByteArray → List (S43) → Option (Bool)
  | 0, _, _, _, _, _, _, _ => none
  | k + 1, x2, x7, x25, x26, x265000, x265001, x265002 => if x26 < x25 then (if 0 ≤ x26 then (if x26 < (x265000.length : Int) then (if (((rd_T39 x265000 x26).f2).length : Int) > x2 then (antecedentref09_Few.j2 k x2 x7 x25 x26 true x265000 x265001 x265002 ((rd_T39 x265000 x26).f0.f0) ((rd_T39 x265000 x26).f0.f1) ((rd_T39 x265000 x26).f1) ((rd_T39 x265000 x26).f2)) else (antecedentref09_Few.j2 k x2 x7 x25 x26 (decide ((((rd_T39 x265000 x26).f0.f1).length : Int) > 10)) x265000 x265001 x265002 ((rd_T39 x265000 x26).f0.f0) ((rd_T39 x265000 x26).f0.f1) ((rd_T39 x265000 x26).f1) ((rd_T39 x265000 x26).f2))) else (none)) else (none)) else (some true)
def antecedentref09_Few.j2 : Nat → Int → Int → Int → Int → Bool → List (S39) → ByteArray → List (S43) → ByteArray → List (S43) → Int → List (S46) → Option (Bool)
  | 0, _, _, _, _, _, _, _, _, _, _, _, _ => none
  | k + 1, x2, x7, x25, x26, x45, x265000, x265001, x265002, x267000, x267001, x267002, x267003 => if x45 = true then (some false) else (antecedentref09_Few.l1 k x2 x7 x25 x26 (x267003.length : Int) 0 x265000 x265001 x265002 x267000 x267001 x267002 x267003)
def antecedentref09_Few.l1 : Nat → Int → Int → Int → Int → Int → Int → List (S39) → ByteArray → List (S43) → ByteArray → List (S43) → Int → List (S46) → Option (Bool)
  | 0, _, _, _, _, _, _, _, _, _, _, _, _, _ => none
  | k + 1, x2, x7, x25, x26, x48, x49, x265000, x265001, x265002, x267000, x267001, x267002, x267003 => if x49 < x48 then (if 0 ≤ x49 then (if x49 < (x267003.length : Int) then (if (((rd_T46 x267003 x49).f6).length : Int) > 30 then (some false) else (if (((rd_T46 x267003 x49).f1.f1).length : Int) > 10 then (some false) else (if (wrap64 (x7 + (((rd_T46 x267003 x49).f6).length : Int))) > 60 then (some false) else (antecedentref09_Few.l1 k x2 (wrap64 (x7 + (((rd_T46 x267003 x49).f6).length : Int))) x25 x26 x48 (wrap64 (x49 + 1)) x265000 x265001 x265002 x267000 x267001 x267002 x267003)))) else (none)) else (none)) else (antecedentref09_Few.l0 k x2 x7 x25 (wrap64 (x26 + 1)) x265000 x265001 x265002)
end
def antecedentref09_Few.f (k : Nat) (l0_0 : List (S39)) (a0_1 : ByteArray) (l0_2 : List (S43)) (a1 : Int) (a2 : Int) : Option (Bool) := if (l0_0.length : Int) > a1 then (antecedentref09_Few.j0 k a2 true l0_0 a0_1 l0_2) else (antecedentref09_Few.j0 k a2 (decide ((l0_2.length : Int) > 10)) l0_0 a0_1 l0_2)
theorem antecedentref09_Few.mono_l : ∀ k, (∀ y0 y1 y2 y3 y4, LeO (antecedentref09_Few.j0 k y0 y1 y2 y3 y4) (antecedentref09_Few.j0 (k + 1) y0 y1 y2 y3 y4)) ∧ (∀ y0 y1 y2 y3 y4 y5 y6, LeO (antecedentref09_Few.l0 k y0 y1 y2 y3 y4 y5 y6) (antecedentref09_Few.l0 (k + 1) y0 y1 y2 y3 y4 y5 y6)) ∧ (∀ y0 y1 y2 y3 y4 y5 y6 y7 y8 y9 y10 y11, LeO (antecedentref09_Few.j2 k y0 y1 y2 y3 y4 y5 y6 y7 y8 y9 y10 y11) (antecedentref09_Few.j2 (k + 1) y0 y1 y2 y3 y4 y5 y6 y7 y8 y9 y10 y11)) ∧ (∀ y0 y1 y2 y3 y4 y5 y6 y7 y8 y9 y10 y11 y12, LeO (antecedentref09_Few.l1 k y0 y1 y2 y3 y4 y5 y6 y7 y8 y9 y10 y11 y12) (antecedentref09_Few.l1 (k + 1) y0 y1 y2 y3 y4 y5 y6 y7 y8 y9 y10 y11 y12))
  | 0 => ⟨fun _ _ _ _ _ r h => by simp [antecedentref09_Few.j0] at h, fun _ _ _ _ _ _ _ r h => by simp [antecedentref09_Few.l0] at h, fun _ _ _ _ _ _ _ _ _ _ _ _ r h => by simp [antecedentref09_Few.j2] at h, fun _ _ _ _ _ _ _ _ _ _ _ _ _ r h => by simp [antecedentref09_Few.l1] at h⟩
  | k + 1 => by
    obtain ⟨ih0, ih1, ih2, ih3⟩ := antecedentref09_Few.mono_l k
    refine ⟨?_, ?_, ?_, ?_⟩
    all_goals
      intros
      first | unfold antecedentref09_Few.j0 | unfold antecedentref09_Few.l0 | unfold antecedentref09_Few.j2 | unfold antecedentref09_Few.l1
      repeat' first
      | (with_reducible exact ih0 _ _ _ _ _)
      | (with_reducible exact ih1 _ _ _ _ _ _ _)
      | (with_reducible exact ih2 _ _ _ _ _ _ _ _ _ _ _ _)
      | (with_reducible exact ih3 _ _ _ _ _ _ _ _ _ _ _ _ _)
      | (with_reducible exact LeO.refl _)
      | (with_reducible exact LeO.none _)
      | (with_reducible refine LeO.ite ?_ ?_)
      | (with_reducible refine LeO.bind ?_ (fun _ => ?_))
theorem antecedentref09_Few.mono : ∀ a0 a1 a2 a3 a4 k, LeO (antecedentref09_Few.f k a0 a1 a2 a3 a4) (antecedentref09_Few.f (k + 1) a0 a1 a2 a3 a4) := by
 intro a0 a1 a2 a3 a4 k
 obtain ⟨ih0, ih1, ih2, ih3⟩ := antecedentref09_Few.mono_l k
 unfold antecedentref09_Few.f
 repeat' first
  | (with_reducible exact ih0 _ _ _ _ _)
  | (with_reducible exact ih1 _ _ _ _ _ _ _)
  | (with_reducible exact ih2 _ _ _ _ _ _ _ _ _ _ _ _)
  | (with_reducible exact ih3 _ _ _ _ _ _ _ _ _ _ _ _ _)
  | (with_reducible exact LeO.refl _)
  | (with_reducible exact LeO.none _)
  | (with_reducible refine LeO.ite ?_ ?_)
  | (with_reducible refine LeO.bind ?_ (fun _ => ?_))
set_option maxHeartbeats 8000000 in
set_option maxRecDepth 100000 in
theorem antecedentref09_Few.calls (k : Nat) (A0_0 : Option Addr) (c0_0 : Nat) (l0_0 : List (S39)) (a0_1 : ByteArray) (A0_2 : Option Addr) (c0_2 : Nat) (l0_2 : List (S43)) (a1 : Int) (a2 : Int) (r : Bool) (w : World) (hr0_0 : Kd.C k39 w A0_0 l0_0.length l0_0) (hc0_0 : l0_0.length ≤ c0_0) (hr0_2 : Kd.C k43 w A0_2 l0_2.length l0_2) (hc0_2 : l0_2.length ≤ c0_2) (h : antecedentref09_Few.f k l0_0 a0_1 l0_2 a1 a2 = some r) :
 Calls Try.prog 18 #[.agg #[.slice A0_0 l0_0.length c0_0, .string a0_1, .slice A0_2 l0_2.length c0_2], .int .i64 a1, .int .i64 a2] w fun e w' => e = .returned (.bool r) ∧ Below w.heap.size w w' := by
 have hu27 := Try.underlying27
 have hu39 := Try.underlying39
 have HR0_0 := Aside0.mk hr0_0
 have HC0_0 := Aside0.mk hc0_0
 clear hr0_0 hc0_0
 have HR0_2 := Aside0.mk hr0_2
 have HC0_2 := Aside0.mk hc0_2
 clear hr0_2 hc0_2
 have HB := Aside0.mk (Below.refl w.heap.size w)
 have H : (if (l0_0.length : Int) > a1 then (antecedentref09_Few.j0 k a2 true l0_0 a0_1 l0_2) else (antecedentref09_Few.j0 k a2 (decide ((l0_2.length : Int) > 10)) l0_0 a0_1 l0_2)) = some r := h
 clear h
 have HC4 := Aside0.mk H
 clear H
 go_enter Try.func18, Try.ntmps18
 go_upto_region 1 with (first | ((with_reducible refine gate_dst (N := 3) rfl ?_); (try (refine gate_guard (by rfl) ?_; dsimp only)); refine box_event ?hg (N := 3) ?hd (cs := #[.slice A0_0 l0_0.length c0_0, .string a0_1, .slice A0_2 l0_2.length c0_2]) (t := 27) ?hr ?_; (case hd => rfl); (case hg => rfl); (case hr => first | (go_simp; done) | (go_simp; rfl)); intro gb264 hg w5 hbox hb; have n0_ := Aside0.mk (below_step (by repeat (first | (with_reducible first | exact HB.out | apply below_alloc | apply pw_below_drewN | apply below_drew1) | exact HB.out)) hb); have n1_ := Aside0.mk (hbox); have n2_ := Aside0.mk ((by rw [hg]; exact (below_size (by repeat (first | (with_reducible first | exact HB.out | apply below_alloc | apply pw_below_drewN | apply below_drew1) | exact HB.out))) : w.heap.size ≤ gb264)); have n3_ := Aside0.mk ((by rw [hg]; exact (below_size (by repeat (first | (with_reducible first | exact HB.out | apply below_alloc | apply pw_below_drewN | apply below_drew1) | exact HB.out))) : w.heap.size ≤ gb264)); clear HB; have HB := n0_; have BK264 := n1_; have GW264 := n2_; have GE264 := n3_; clear n0_ n1_ n2_ n3_; clear hb hbox hg))
 (try simp only [Act.put, List.setIfInBounds_toArray, List.set_cons_zero, List.set_cons_succ])
 go_cut [22] (fun v22 wc => ∃ (kq : Nat) (x22_3 : Bool), v22 = .bool x22_3 ∧ Aside0 (antecedentref09_Few.j0 kq a2 x22_3 l0_0 a0_1 l0_2 = some r) ∧ Aside0 (kq ≤ k) ∧ Aside0 (wc.heap[gb264]? = some (.cells #[(.slice A0_0 l0_0.length c0_0), .string a0_1, (.slice A0_2 l0_2.length c0_2)] 27 (0, 0))) ∧ Aside0 (Below w.heap.size w wc))
 case first =>
  have H := HC4.out
  clear HC4
  by_cases c6 : (l0_0.length : Int) > a1
  case neg =>
   rw [if_neg c6] at H
   have c6b0 := decide_eq_false c6
   clear c6
   (first | rw [c6b0] | (simp only [i64_w, i32_w]; rw [c6b0]) | skip)
   have H' := Aside0.mk H
   clear H
   have hcz8_0 : w5.cell? ⟨gb264, 0, none⟩ = some (.slice A0_0 l0_0.length c0_0) := (blk_cell BK264.out 0).trans rfl
   have hcz8_1 : w5.cell? ⟨gb264, 1, none⟩ = some (.string a0_1) := (blk_cell BK264.out 1).trans rfl
   have hcz8_2 : w5.cell? ⟨gb264, 2, none⟩ = some (.slice A0_2 l0_2.length c0_2) := (blk_cell BK264.out 2).trans rfl
   have hfz8_0 := blk_frozen BK264.out 0
   have hfz8_1 := blk_frozen BK264.out 1
   have hfz8_2 := blk_frozen BK264.out 2
   go_wp2
   go_wp2
   repeat (go_quiet (fail); try go_wp2)
   go_meet
   case rel => exact ⟨_, (decide ((l0_2.length : Int) > 10)), (by first | rfl | (simp; done) | (simp [*]; done)), H', ⟨by first | omega | exact Nat.le_refl _⟩, ⟨by (with_reducible repeat (first | refine blk_drewN ?_ _ | refine blk_drew ?_ | refine blk_alloc ?_ _)); exact BK264.out⟩, ⟨by repeat (first | (with_reducible first | exact HB.out | apply below_alloc | apply pw_below_drewN | apply below_drew1 | refine below_set ?_ GE264.out) | exact HB.out)⟩⟩
  rw [if_pos c6] at H
  have c6b0 := decide_eq_true c6
  clear c6
  (first | rw [c6b0] | (simp only [i64_w, i32_w]; rw [c6b0]) | skip)
  have H' := Aside0.mk H
  clear H
  have hcz7_0 : w5.cell? ⟨gb264, 0, none⟩ = some (.slice A0_0 l0_0.length c0_0) := (blk_cell BK264.out 0).trans rfl
  have hcz7_1 : w5.cell? ⟨gb264, 1, none⟩ = some (.string a0_1) := (blk_cell BK264.out 1).trans rfl
  have hcz7_2 : w5.cell? ⟨gb264, 2, none⟩ = some (.slice A0_2 l0_2.length c0_2) := (blk_cell BK264.out 2).trans rfl
  have hfz7_0 := blk_frozen BK264.out 0
  have hfz7_1 := blk_frozen BK264.out 1
  have hfz7_2 := blk_frozen BK264.out 2
  go_wp2
  go_wp2
  repeat (go_quiet (fail); try go_wp2)
  go_meet
  case rel => exact ⟨_, (true), (by first | rfl | (simp; done) | (simp [*]; done)), H', ⟨by first | omega | exact Nat.le_refl _⟩, ⟨by (with_reducible repeat (first | refine blk_drewN ?_ _ | refine blk_drew ?_ | refine blk_alloc ?_ _)); exact BK264.out⟩, ⟨by repeat (first | (with_reducible first | exact HB.out | apply below_alloc | apply pw_below_drewN | apply below_drew1 | refine below_set ?_ GE264.out) | exact HB.out)⟩⟩
 clear HC4
 try clear c1
 try clear p2
 try clear c6
 try clear c6b0
 try clear hcz7_0
 try clear hcz7_1
 try clear hcz7_2
 try clear hcz8_0
 try clear hcz8_1
 try clear hcz8_2
 try clear hfz7_0
 try clear hfz7_1
 try clear hfz7_2
 try clear hfz8_0
 try clear hfz8_1
 try clear hfz8_2
 obtain ⟨kq, x22_3, rfl, HA, HJ3, BK264, HB⟩ := hcut
 obtain _ | kj3 := kq
 · exact absurd HA.out (by simp [antecedentref09_Few.j0])
 have H := HA.out
 clear HA
 simp only [antecedentref09_Few.j0] at H
 by_cases c9 : x22_3 = true
 case pos =>
  subst c9
  rw [if_pos rfl] at H
  obtain rfl := Option.some.inj H
  go_wp2
  go_wp2
  repeat (go_quiet (fail); try go_wp2)
  go_ret
  exact ⟨by first | rfl | (simp [errW_none, errW_some] <;> rfl) | (simp [*, errW_none, errW_some] <;> rfl), by repeat (first | (with_reducible first | exact HB.out | apply below_alloc | apply pw_below_drewN | apply below_drew1 | refine below_set ?_ GE264.out) | exact HB.out)⟩
 replace c9 := Bool.eq_false_iff.mpr c9
 subst c9
 rw [if_neg (show ¬ (false = true) by decide)] at H
 have H' := Aside0.mk H
 clear H
 have hcz10_0 : wc.cell? ⟨gb264, 0, none⟩ = some (.slice A0_0 l0_0.length c0_0) := (blk_cell BK264.out 0).trans rfl
 have hcz10_1 : wc.cell? ⟨gb264, 1, none⟩ = some (.string a0_1) := (blk_cell BK264.out 1).trans rfl
 have hcz10_2 : wc.cell? ⟨gb264, 2, none⟩ = some (.slice A0_2 l0_2.length c0_2) := (blk_cell BK264.out 2).trans rfl
 have hfz10_0 := blk_frozen BK264.out 0
 have hfz10_1 := blk_frozen BK264.out 1
 have hfz10_2 := blk_frozen BK264.out 2
 go_wp2
 go_wp2
 repeat (go_quiet (fail); try go_wp2)
 go_loopg [7, 26] kj3 (fun kq v7 v26 w' => ∃ (x7_2 : Int) (x26_2 : Int), v7 = .int .i64 x7_2 ∧ v26 = .int .i64 x26_2 ∧ Aside0 (antecedentref09_Few.l0 kq a2 x7_2 (l0_0.length : Int) x26_2 l0_0 a0_1 l0_2 = some r) ∧ Aside0 (kq ≤ kj3) ∧ Aside0 (w'.heap[gb264]? = some (.cells #[(.slice A0_0 l0_0.length c0_0), .string a0_1, (.slice A0_2 l0_2.length c0_2)] 27 (0, 0))) ∧ Aside0 (Below w.heap.size w w'))
 case atStart => exact ⟨(0), (0), (by first | rfl | (simp; done) | (simp [*]; done)), (by first | rfl | (simp; done) | (simp [*]; done)), H', ⟨Nat.le_refl _⟩, ⟨by (with_reducible repeat (first | refine blk_drewN ?_ _ | refine blk_drew ?_ | refine blk_alloc ?_ _)); exact BK264.out⟩, ⟨by repeat (first | (with_reducible first | exact HB.out | apply below_alloc | apply pw_below_drewN | apply below_drew1 | refine below_set ?_ GE264.out) | exact HB.out)⟩⟩
 clear H'
 try clear c1
 try clear p2
 try clear c6
 try clear c6b0
 try clear c9
 try clear hcz10_0
 try clear hcz10_1
 try clear hcz10_2
 try clear hcz7_0
 try clear hcz7_1
 try clear hcz7_2
 try clear hcz8_0
 try clear hcz8_1
 try clear hcz8_2
 try clear hfz10_0
 try clear hfz10_1
 try clear hfz10_2
 try clear hfz7_0
 try clear hfz7_1
 try clear hfz7_2
 try clear hfz8_0
 try clear hfz8_1
 try clear hfz8_2
 try clear p2
 obtain ⟨x7_2, x26_2, rfl, rfl, HA, HK2, BK264, HB⟩ := hrel
 obtain _ | k2 := gk
 · exact absurd HA.out (by simp [antecedentref09_Few.l0])
 have H := HA.out
 clear HA
 simp only [antecedentref09_Few.l0] at H
 by_cases c11 : x26_2 < (l0_0.length : Int)
 case neg =>
  rw [if_neg c11] at H
  have c11b0 := decide_eq_false c11
  clear c11
  obtain rfl := Option.some.inj H
  go_wp2
  go_wp2
  repeat (go_quiet (fail); try go_wp2)
  go_ret
  exact ⟨by first | rfl | (simp [errW_none, errW_some] <;> rfl) | (simp [*, errW_none, errW_some] <;> rfl), by repeat (first | (with_reducible first | exact HB.out | apply below_alloc | apply pw_below_drewN | apply below_drew1 | refine below_set ?_ GE264.out) | exact HB.out)⟩
 rw [if_pos c11] at H
 have c11b0 := decide_eq_true c11
 clear c11
 by_cases c12 : 0 ≤ x26_2
 case neg => rw [if_neg c12] at H; exact absurd H (by simp)
 rw [if_pos c12] at H
 have c12b0 := decide_eq_true c12
 clear c12
 by_cases c13 : x26_2 < (l0_0.length : Int)
 case neg => rw [if_neg c13] at H; exact absurd H (by simp)
 rw [if_pos c13] at H
 have c13b0 := decide_eq_true c13
 clear c13
 have HC14 := Aside0.mk H
 clear H
 have hcz15_0 : wr.cell? ⟨gb264, 0, none⟩ = some (.slice A0_0 l0_0.length c0_0) := (blk_cell BK264.out 0).trans rfl
 have hcz15_1 : wr.cell? ⟨gb264, 1, none⟩ = some (.string a0_1) := (blk_cell BK264.out 1).trans rfl
 have hcz15_2 : wr.cell? ⟨gb264, 2, none⟩ = some (.slice A0_2 l0_2.length c0_2) := (blk_cell BK264.out 2).trans rfl
 have hfz15_0 := blk_frozen BK264.out 0
 have hfz15_1 := blk_frozen BK264.out 1
 have hfz15_2 := blk_frozen BK264.out 2
 have p265 : 0 ≤ (x26_2 : Int) := of_decide_eq_true (by with_reducible assumption)
 have q265 : x26_2 < (l0_0.length : Int) := of_decide_eq_true (by with_reducible assumption)
 obtain ⟨ad265, A265_1, c265_1, A265_3, c265_3, e265, hx265_0, hx265_1, hx265_2, hx265_3, hl265_1, hi265_1, hl265_3, hi265_3⟩ := at_T39 HR0_0.out x26_2 p265 q265
 cases e265
 replace hx265_0 := (HB.out.cell (World.block_lt_of_cell? w _ hx265_0)).trans hx265_0
 replace hx265_1 := (HB.out.cell (World.block_lt_of_cell? w _ hx265_1)).trans hx265_1
 replace hx265_2 := (HB.out.cell (World.block_lt_of_cell? w _ hx265_2)).trans hx265_2
 replace hx265_3 := (HB.out.cell (World.block_lt_of_cell? w _ hx265_3)).trans hx265_3
 have HR265_1 := Aside0.mk hi265_1
 have HC265_1 := Aside0.mk hl265_1
 clear hi265_1 hl265_1
 have HR265_3 := Aside0.mk hi265_3
 have HC265_3 := Aside0.mk hl265_3
 clear hi265_3 hl265_3
 replace p265 := eq_true p265
 replace q265 := eq_true q265
 go_upto_region 8 with (first | ((with_reducible refine gate_dst (N := 9) rfl ?_); (try (refine gate_guard (by rfl) ?_; dsimp only)); refine box_event ?hg (N := 9) ?hd (cs := #[.string (⟨#[]⟩ : ByteArray), .slice none 0 0, .int .i64 0, .slice none 0 0]) (t := 39) ?hr ?_; (case hd => rfl); (case hg => rfl); (case hr => first | (go_simp; done) | (go_simp; rfl)); intro gb266 hg w16 hbox hb; have n0_ := Aside0.mk (blk_below (g := gb264) (o := .cells #[.slice (some ad265) l0_0.length c0_0, .string a0_1, .slice A0_2 l0_2.length c0_2] 27 (0, 0)) (by (with_reducible repeat (first | refine blk_drewN ?_ _ | refine blk_drew ?_ | refine blk_alloc ?_ _)); exact BK264.out) hb); have n1_ := Aside0.mk (below_step (by repeat (first | (with_reducible first | exact HB.out | apply below_alloc | apply pw_below_drewN | apply below_drew1 | refine below_set ?_ GE264.out) | exact HB.out)) hb); have n2_ := Aside0.mk (hbox); have n3_ := Aside0.mk ((by rw [hg]; exact (below_size (by repeat (first | (with_reducible first | exact HB.out | apply below_alloc | apply pw_below_drewN | apply below_drew1 | refine below_set ?_ GE264.out) | exact HB.out))) : w.heap.size ≤ gb266)); have n4_ := Aside0.mk ((by rw [hg]; exact (below_size (by repeat (first | (with_reducible first | exact HB.out | apply below_alloc | apply pw_below_drewN | apply below_drew1 | refine below_set ?_ GE264.out) | exact HB.out))) : w.heap.size ≤ gb266)); have n5_ := Aside0.mk ((by rw [hg]; exact Nat.ne_of_lt (blk_lt (g := gb264) (o := .cells #[.slice (some ad265) l0_0.length c0_0, .string a0_1, .slice A0_2 l0_2.length c0_2] 27 (0, 0)) (by (with_reducible repeat (first | refine blk_drewN ?_ _ | refine blk_drew ?_ | refine blk_alloc ?_ _)); exact BK264.out)) : gb264 ≠ gb266)); have n6_ := Aside0.mk ((by rw [hg]; exact Nat.ne_of_gt (blk_lt (g := gb264) (o := .cells #[.slice (some ad265) l0_0.length c0_0, .string a0_1, .slice A0_2 l0_2.length c0_2] 27 (0, 0)) (by (with_reducible repeat (first | refine blk_drewN ?_ _ | refine blk_drew ?_ | refine blk_alloc ?_ _)); exact BK264.out)) : gb266 ≠ gb264)); clear BK264; clear HB; have BK264 := n0_; have HB := n1_; have BK266 := n2_; have GW266 := n3_; have GE266 := n4_; have NB264_266 := n5_; have NB266_264 := n6_; clear n0_ n1_ n2_ n3_ n4_ n5_ n6_; clear hb hbox hg; have hnb17 := NB266_264.out; have hnc17 := NB264_266.out; have hcz18_0 : w16.cell? ⟨gb266, 0, none⟩ = some (.string (⟨#[]⟩ : ByteArray)) := (blk_cell BK266.out 0).trans rfl; have hcz18_1 : w16.cell? ⟨gb266, 1, none⟩ = some (.slice none 0 0) := (blk_cell BK266.out 1).trans rfl; have hcz18_2 : w16.cell? ⟨gb266, 2, none⟩ = some (.int .i64 0) := (blk_cell BK266.out 2).trans rfl; have hcz18_3 : w16.cell? ⟨gb266, 3, none⟩ = some (.slice none 0 0) := (blk_cell BK266.out 3).trans rfl; have hfz18_0 := blk_frozen BK266.out 0; have hfz18_1 := blk_frozen BK266.out 1; have hfz18_2 := blk_frozen BK266.out 2; have hfz18_3 := blk_frozen BK266.out 3))
 (try simp only [Act.put, List.setIfInBounds_toArray, List.set_cons_zero, List.set_cons_succ])
 go_cut [45] (fun v45 wc => ∃ (kq : Nat) (x45_13 : Bool), v45 = .bool x45_13 ∧ Aside0 (antecedentref09_Few.j2 kq a2 x7_2 (l0_0.length : Int) x26_2 x45_13 l0_0 a0_1 l0_2 ((rd_T39 l0_0 x26_2).f0.f0) ((rd_T39 l0_0 x26_2).f0.f1) ((rd_T39 l0_0 x26_2).f1) ((rd_T39 l0_0 x26_2).f2) = some r) ∧ Aside0 (kq ≤ k2) ∧ Aside0 (wc.heap[gb264]? = some (.cells #[(.slice (some ad265) l0_0.length c0_0), .string a0_1, (.slice A0_2 l0_2.length c0_2)] 27 (0, 0))) ∧ Aside0 (wc.heap[gb266]? = some (.cells #[.string ((rd_T39 l0_0 x26_2).f0.f0), (.slice A265_1 ((rd_T39 l0_0 x26_2).f0.f1).length c265_1), .int .i64 ((rd_T39 l0_0 x26_2).f1), (.slice A265_3 ((rd_T39 l0_0 x26_2).f2).length c265_3)] 39 (0, 0))) ∧ Aside0 (Below w.heap.size w wc))
 case first =>
  have H := HC14.out
  clear HC14
  by_cases c19 : (((rd_T39 l0_0 x26_2).f2).length : Int) > a2
  case neg =>
   rw [if_neg c19] at H
   have c19b0 := decide_eq_false c19
   clear c19
   (first | rw [c19b0] | (simp only [i64_w, i32_w]; rw [c19b0]) | skip)
   have H' := Aside0.mk H
   clear H
   have hnb22 := NB266_264.out
   have hnc22 := NB264_266.out
   have hcz23_0 : w16.cell? ⟨gb266, 0, none⟩ = some (.string (⟨#[]⟩ : ByteArray)) := (blk_cell BK266.out 0).trans rfl
   have hcz23_1 : w16.cell? ⟨gb266, 1, none⟩ = some (.slice none 0 0) := (blk_cell BK266.out 1).trans rfl
   have hcz23_2 : w16.cell? ⟨gb266, 2, none⟩ = some (.int .i64 0) := (blk_cell BK266.out 2).trans rfl
   have hcz23_3 : w16.cell? ⟨gb266, 3, none⟩ = some (.slice none 0 0) := (blk_cell BK266.out 3).trans rfl
   have hfz23_0 := blk_frozen BK266.out 0
   have hfz23_1 := blk_frozen BK266.out 1
   have hfz23_2 := blk_frozen BK266.out 2
   have hfz23_3 := blk_frozen BK266.out 3
   go_wp2
   go_wp2
   repeat (go_quiet (fail); try go_wp2)
   go_meet
   case rel => exact ⟨_, (decide ((((rd_T39 l0_0 x26_2).f0.f1).length : Int) > 10)), (by first | rfl | (simp; done) | (simp [*]; done)), H', ⟨by have := HJ3.out; have := HK2.out; first | omega | exact Nat.le_refl _⟩, ⟨by (with_reducible repeat (first | refine blk_drewN ?_ _ | refine blk_drew ?_ | refine blk_alloc ?_ _)); refine blk_far ?_ NB264_266.out _; (with_reducible repeat (first | refine blk_drewN ?_ _ | refine blk_drew ?_ | refine blk_alloc ?_ _)); refine blk_far ?_ NB264_266.out _; (with_reducible repeat (first | refine blk_drewN ?_ _ | refine blk_drew ?_ | refine blk_alloc ?_ _)); refine blk_far ?_ NB264_266.out _; (with_reducible repeat (first | refine blk_drewN ?_ _ | refine blk_drew ?_ | refine blk_alloc ?_ _)); refine blk_far ?_ NB264_266.out _; (with_reducible repeat (first | refine blk_drewN ?_ _ | refine blk_drew ?_ | refine blk_alloc ?_ _)); exact BK264.out⟩, ⟨by (with_reducible repeat (first | refine blk_drewN ?_ _ | refine blk_drew ?_ | refine blk_alloc ?_ _)); refine blk_put (cs := #[.string ((rd_T39 l0_0 x26_2).f0.f0), .slice A265_1 ((rd_T39 l0_0 x26_2).f0.f1).length c265_1, .int .i64 ((rd_T39 l0_0 x26_2).f1), .slice none 0 0]) ?_ 3 _ rfl; (with_reducible repeat (first | refine blk_drewN ?_ _ | refine blk_drew ?_ | refine blk_alloc ?_ _)); refine blk_put (cs := #[.string ((rd_T39 l0_0 x26_2).f0.f0), .slice A265_1 ((rd_T39 l0_0 x26_2).f0.f1).length c265_1, .int .i64 0, .slice none 0 0]) ?_ 2 _ rfl; (with_reducible repeat (first | refine blk_drewN ?_ _ | refine blk_drew ?_ | refine blk_alloc ?_ _)); refine blk_put (cs := #[.string ((rd_T39 l0_0 x26_2).f0.f0), .slice none 0 0, .int .i64 0, .slice none 0 0]) ?_ 1 _ rfl; (with_reducible repeat (first | refine blk_drewN ?_ _ | refine blk_drew ?_ | refine blk_alloc ?_ _)); refine blk_put (cs := #[.string (⟨#[]⟩ : ByteArray), .slice none 0 0, .int .i64 0, .slice none 0 0]) ?_ 0 _ rfl; (with_reducible repeat (first | refine blk_drewN ?_ _ | refine blk_drew ?_ | refine blk_alloc ?_ _)); exact BK266.out⟩, ⟨by repeat (first | (with_reducible first | exact HB.out | apply below_alloc | apply pw_below_drewN | apply below_drew1 | refine below_set ?_ GE264.out | refine below_set ?_ GE266.out) | exact HB.out)⟩⟩
  rw [if_pos c19] at H
  have c19b0 := decide_eq_true c19
  clear c19
  (first | rw [c19b0] | (simp only [i64_w, i32_w]; rw [c19b0]) | skip)
  have H' := Aside0.mk H
  clear H
  have hnb20 := NB266_264.out
  have hnc20 := NB264_266.out
  have hcz21_0 : w16.cell? ⟨gb266, 0, none⟩ = some (.string (⟨#[]⟩ : ByteArray)) := (blk_cell BK266.out 0).trans rfl
  have hcz21_1 : w16.cell? ⟨gb266, 1, none⟩ = some (.slice none 0 0) := (blk_cell BK266.out 1).trans rfl
  have hcz21_2 : w16.cell? ⟨gb266, 2, none⟩ = some (.int .i64 0) := (blk_cell BK266.out 2).trans rfl
  have hcz21_3 : w16.cell? ⟨gb266, 3, none⟩ = some (.slice none 0 0) := (blk_cell BK266.out 3).trans rfl
  have hfz21_0 := blk_frozen BK266.out 0
  have hfz21_1 := blk_frozen BK266.out 1
  have hfz21_2 := blk_frozen BK266.out 2
  have hfz21_3 := blk_frozen BK266.out 3
  go_wp2
  go_wp2
  repeat (go_quiet (fail); try go_wp2)
  go_meet
  case rel => exact ⟨_, (true), (by first | rfl | (simp; done) | (simp [*]; done)), H', ⟨by have := HJ3.out; have := HK2.out; first | omega | exact Nat.le_refl _⟩, ⟨by (with_reducible repeat (first | refine blk_drewN ?_ _ | refine blk_drew ?_ | refine blk_alloc ?_ _)); refine blk_far ?_ NB264_266.out _; (with_reducible repeat (first | refine blk_drewN ?_ _ | refine blk_drew ?_ | refine blk_alloc ?_ _)); refine blk_far ?_ NB264_266.out _; (with_reducible repeat (first | refine blk_drewN ?_ _ | refine blk_drew ?_ | refine blk_alloc ?_ _)); refine blk_far ?_ NB264_266.out _; (with_reducible repeat (first | refine blk_drewN ?_ _ | refine blk_drew ?_ | refine blk_alloc ?_ _)); refine blk_far ?_ NB264_266.out _; (with_reducible repeat (first | refine blk_drewN ?_ _ | refine blk_drew ?_ | refine blk_alloc ?_ _)); exact BK264.out⟩, ⟨by (with_reducible repeat (first | refine blk_drewN ?_ _ | refine blk_drew ?_ | refine blk_alloc ?_ _)); refine blk_put (cs := #[.string ((rd_T39 l0_0 x26_2).f0.f0), .slice A265_1 ((rd_T39 l0_0 x26_2).f0.f1).length c265_1, .int .i64 ((rd_T39 l0_0 x26_2).f1), .slice none 0 0]) ?_ 3 _ rfl; (with_reducible repeat (first | refine blk_drewN ?_ _ | refine blk_drew ?_ | refine blk_alloc ?_ _)); refine blk_put (cs := #[.string ((rd_T39 l0_0 x26_2).f0.f0), .slice A265_1 ((rd_T39 l0_0 x26_2).f0.f1).length c265_1, .int .i64 0, .slice none 0 0]) ?_ 2 _ rfl; (with_reducible repeat (first | refine blk_drewN ?_ _ | refine blk_drew ?_ | refine blk_alloc ?_ _)); refine blk_put (cs := #[.string ((rd_T39 l0_0 x26_2).f0.f0), .slice none 0 0, .int .i64 0, .slice none 0 0]) ?_ 1 _ rfl; (with_reducible repeat (first | refine blk_drewN ?_ _ | refine blk_drew ?_ | refine blk_alloc ?_ _)); refine blk_put (cs := #[.string (⟨#[]⟩ : ByteArray), .slice none 0 0, .int .i64 0, .slice none 0 0]) ?_ 0 _ rfl; (with_reducible repeat (first | refine blk_drewN ?_ _ | refine blk_drew ?_ | refine blk_alloc ?_ _)); exact BK266.out⟩, ⟨by repeat (first | (with_reducible first | exact HB.out | apply below_alloc | apply pw_below_drewN | apply below_drew1 | refine below_set ?_ GE264.out | refine below_set ?_ GE266.out) | exact HB.out)⟩⟩
 clear HC14
 try clear c1
 try clear c2
 try clear p2
 try clear q2
 try clear hx2
 try clear c6
 try clear c6b0
 try clear c9
 try clear c11
 try clear c11b0
 try clear c12
 try clear c12b0
 try clear c13
 try clear c13b0
 try clear c17
 try clear c18
 try clear c19
 try clear c19b0
 try clear c20
 try clear c22
 try clear hcz10_0
 try clear hcz10_1
 try clear hcz10_2
 try clear hcz15_0
 try clear hcz15_1
 try clear hcz15_2
 try clear hcz18_0
 try clear hcz18_1
 try clear hcz18_2
 try clear hcz18_3
 try clear hcz21_0
 try clear hcz21_1
 try clear hcz21_2
 try clear hcz21_3
 try clear hcz23_0
 try clear hcz23_1
 try clear hcz23_2
 try clear hcz23_3
 try clear hcz7_0
 try clear hcz7_1
 try clear hcz7_2
 try clear hcz8_0
 try clear hcz8_1
 try clear hcz8_2
 try clear hfz10_0
 try clear hfz10_1
 try clear hfz10_2
 try clear hfz15_0
 try clear hfz15_1
 try clear hfz15_2
 try clear hfz18_0
 try clear hfz18_1
 try clear hfz18_2
 try clear hfz18_3
 try clear hfz21_0
 try clear hfz21_1
 try clear hfz21_2
 try clear hfz21_3
 try clear hfz23_0
 try clear hfz23_1
 try clear hfz23_2
 try clear hfz23_3
 try clear hfz7_0
 try clear hfz7_1
 try clear hfz7_2
 try clear hfz8_0
 try clear hfz8_1
 try clear hfz8_2
 try clear hx265_0
 try clear hx265_1
 try clear hx265_2
 try clear hx265_3
 try clear p2
 try clear p265
 try clear q265
 obtain ⟨kq, x45_13, rfl, HA, HJ13, BK264, BK266, HB⟩ := hcut
 obtain _ | kj13 := kq
 · exact absurd HA.out (by simp [antecedentref09_Few.j2])
 have H := HA.out
 clear HA
 simp only [antecedentref09_Few.j2] at H
 by_cases c24 : x45_13 = true
 case pos =>
  subst c24
  rw [if_pos rfl] at H
  obtain rfl := Option.some.inj H
  go_wp2
  go_wp2
  repeat (go_quiet (fail); try go_wp2)
  go_ret
  exact ⟨by first | rfl | (simp [errW_none, errW_some] <;> rfl) | (simp [*, errW_none, errW_some] <;> rfl), by repeat (first | (with_reducible first | exact HB.out | apply below_alloc | apply pw_below_drewN | apply below_drew1 | refine below_set ?_ GE264.out | refine below_set ?_ GE266.out) | exact HB.out)⟩
 replace c24 := Bool.eq_false_iff.mpr c24
 subst c24
 rw [if_neg (show ¬ (false = true) by decide)] at H
 have H' := Aside0.mk H
 clear H
 have hnb25 := NB266_264.out
 have hnc25 := NB264_266.out
 have hcz26_0 : wc.cell? ⟨gb266, 0, none⟩ = some (.string ((rd_T39 l0_0 x26_2).f0.f0)) := (blk_cell BK266.out 0).trans rfl
 have hcz26_1 : wc.cell? ⟨gb266, 1, none⟩ = some (.slice A265_1 ((rd_T39 l0_0 x26_2).f0.f1).length c265_1) := (blk_cell BK266.out 1).trans rfl
 have hcz26_2 : wc.cell? ⟨gb266, 2, none⟩ = some (.int .i64 ((rd_T39 l0_0 x26_2).f1)) := (blk_cell BK266.out 2).trans rfl
 have hcz26_3 : wc.cell? ⟨gb266, 3, none⟩ = some (.slice A265_3 ((rd_T39 l0_0 x26_2).f2).length c265_3) := (blk_cell BK266.out 3).trans rfl
 have hfz26_0 := blk_frozen BK266.out 0
 have hfz26_1 := blk_frozen BK266.out 1
 have hfz26_2 := blk_frozen BK266.out 2
 have hfz26_3 := blk_frozen BK266.out 3
 go_wp2
 go_wp2
 repeat (go_quiet (fail); try go_wp2)
 go_loopg [7, 49] kj13 (fun kq v7 v49 w' => ∃ (x7_4 : Int) (x49_4 : Int), v7 = .int .i64 x7_4 ∧ v49 = .int .i64 x49_4 ∧ Aside0 (antecedentref09_Few.l1 kq a2 x7_4 (l0_0.length : Int) x26_2 (((rd_T39 l0_0 x26_2).f2).length : Int) x49_4 l0_0 a0_1 l0_2 ((rd_T39 l0_0 x26_2).f0.f0) ((rd_T39 l0_0 x26_2).f0.f1) ((rd_T39 l0_0 x26_2).f1) ((rd_T39 l0_0 x26_2).f2) = some r) ∧ Aside0 (kq ≤ kj13) ∧ Aside0 (w'.heap[gb264]? = some (.cells #[(.slice (some ad265) l0_0.length c0_0), .string a0_1, (.slice A0_2 l0_2.length c0_2)] 27 (0, 0))) ∧ Aside0 (w'.heap[gb266]? = some (.cells #[.string ((rd_T39 l0_0 x26_2).f0.f0), (.slice A265_1 ((rd_T39 l0_0 x26_2).f0.f1).length c265_1), .int .i64 ((rd_T39 l0_0 x26_2).f1), (.slice A265_3 ((rd_T39 l0_0 x26_2).f2).length c265_3)] 39 (0, 0))) ∧ Aside0 (Below w.heap.size w w'))
 case atStart => exact ⟨(x7_2), (0), (by first | rfl | (simp; done) | (simp [*]; done)), (by first | rfl | (simp; done) | (simp [*]; done)), H', ⟨Nat.le_refl _⟩, ⟨by (with_reducible repeat (first | refine blk_drewN ?_ _ | refine blk_drew ?_ | refine blk_alloc ?_ _)); exact BK264.out⟩, ⟨by (with_reducible repeat (first | refine blk_drewN ?_ _ | refine blk_drew ?_ | refine blk_alloc ?_ _)); exact BK266.out⟩, ⟨by repeat (first | (with_reducible first | exact HB.out | apply below_alloc | apply pw_below_drewN | apply below_drew1 | refine below_set ?_ GE264.out | refine below_set ?_ GE266.out) | exact HB.out)⟩⟩
 clear H'
 try clear c1
 try clear c2
 try clear p2
 try clear q2
 try clear hx2
 try clear c6
 try clear c6b0
 try clear c9
 try clear c11
 try clear c11b0
 try clear c12
 try clear c12b0
 try clear c13
 try clear c13b0
 try clear c17
 try clear c18
 try clear c19
 try clear c19b0
 try clear c20
 try clear c22
 try clear c24
 try clear c25
 try clear c26
 try clear p26
 try clear q26
 try clear hx26
 try clear hcz10_0
 try clear hcz10_1
 try clear hcz10_2
 try clear hcz15_0
 try clear hcz15_1
 try clear hcz15_2
 try clear hcz18_0
 try clear hcz18_1
 try clear hcz18_2
 try clear hcz18_3
 try clear hcz21_0
 try clear hcz21_1
 try clear hcz21_2
 try clear hcz21_3
 try clear hcz23_0
 try clear hcz23_1
 try clear hcz23_2
 try clear hcz23_3
 try clear hcz26_0
 try clear hcz26_1
 try clear hcz26_2
 try clear hcz26_3
 try clear hcz7_0
 try clear hcz7_1
 try clear hcz7_2
 try clear hcz8_0
 try clear hcz8_1
 try clear hcz8_2
 try clear hfz10_0
 try clear hfz10_1
 try clear hfz10_2
 try clear hfz15_0
 try clear hfz15_1
 try clear hfz15_2
 try clear hfz18_0
 try clear hfz18_1
 try clear hfz18_2
 try clear hfz18_3
 try clear hfz21_0
 try clear hfz21_1
 try clear hfz21_2
 try clear hfz21_3
 try clear hfz23_0
 try clear hfz23_1
 try clear hfz23_2
 try clear hfz23_3
 try clear hfz26_0
 try clear hfz26_1
 try clear hfz26_2
 try clear hfz26_3
 try clear hfz7_0
 try clear hfz7_1
 try clear hfz7_2
 try clear hfz8_0
 try clear hfz8_1
 try clear hfz8_2
 try clear hx265_0
 try clear hx265_1
 try clear hx265_2
 try clear hx265_3
 try clear p2
 try clear p265
 try clear q2
 try clear q265
 obtain ⟨x7_4, x49_4, rfl, rfl, HA, HK4, BK264, BK266, HB⟩ := hrel
 obtain _ | k4 := gk
 · exact absurd HA.out (by simp [antecedentref09_Few.l1])
 have H := HA.out
 clear HA
 simp only [antecedentref09_Few.l1] at H
 by_cases c27 : x49_4 < (((rd_T39 l0_0 x26_2).f2).length : Int)
 case neg =>
  rw [if_neg c27] at H
  have c27b0 := decide_eq_false c27
  clear c27
  have H' := Aside0.mk H
  clear H
  go_wp2
  go_wp2
  repeat (go_quiet (fail); try go_wp2)
  go_roundg k4
  case measure => have := HJ3.out; have := HK2.out; have := HJ13.out; have := HK4.out; omega
  case rel => exact ⟨(x7_4), (wrap64 (x26_2 + 1)), (by first | rfl | (simp; done) | (simp [*]; done)), (by first | rfl | (simp; done) | (simp [*]; done)), H', ⟨by have := HJ3.out; have := HK2.out; have := HJ13.out; have := HK4.out; omega⟩, ⟨by (with_reducible repeat (first | refine blk_drewN ?_ _ | refine blk_drew ?_ | refine blk_alloc ?_ _)); exact BK264.out⟩, ⟨by repeat (first | (with_reducible first | exact HB.out | apply below_alloc | apply pw_below_drewN | apply below_drew1 | refine below_set ?_ GE264.out | refine below_set ?_ GE266.out) | exact HB.out)⟩⟩
 rw [if_pos c27] at H
 have c27b0 := decide_eq_true c27
 clear c27
 by_cases c28 : 0 ≤ x49_4
 case neg => rw [if_neg c28] at H; exact absurd H (by simp)
 rw [if_pos c28] at H
 have c28b0 := decide_eq_true c28
 clear c28
 by_cases c29 : x49_4 < (((rd_T39 l0_0 x26_2).f2).length : Int)
 case neg => rw [if_neg c29] at H; exact absurd H (by simp)
 rw [if_pos c29] at H
 have c29b0 := decide_eq_true c29
 clear c29
 by_cases c30 : (((rd_T46 ((rd_T39 l0_0 x26_2).f2) x49_4).f6).length : Int) > 30
 case pos =>
  rw [if_pos c30] at H
  have c30b0 := decide_eq_true c30
  have c30b1 : decide (30 < ((rd_T46 ((rd_T39 l0_0 x26_2).f2) x49_4).f6).length) = true := decide_eq_true (by omega)
  clear c30
  obtain rfl := Option.some.inj H
  have hnb31 := NB266_264.out
  have hnc31 := NB264_266.out
  have hcz32_0 : wr.cell? ⟨gb266, 0, none⟩ = some (.string ((rd_T39 l0_0 x26_2).f0.f0)) := (blk_cell BK266.out 0).trans rfl
  have hcz32_1 : wr.cell? ⟨gb266, 1, none⟩ = some (.slice A265_1 ((rd_T39 l0_0 x26_2).f0.f1).length c265_1) := (blk_cell BK266.out 1).trans rfl
  have hcz32_2 : wr.cell? ⟨gb266, 2, none⟩ = some (.int .i64 ((rd_T39 l0_0 x26_2).f1)) := (blk_cell BK266.out 2).trans rfl
  have hcz32_3 : wr.cell? ⟨gb266, 3, none⟩ = some (.slice A265_3 ((rd_T39 l0_0 x26_2).f2).length c265_3) := (blk_cell BK266.out 3).trans rfl
  have hfz32_0 := blk_frozen BK266.out 0
  have hfz32_1 := blk_frozen BK266.out 1
  have hfz32_2 := blk_frozen BK266.out 2
  have hfz32_3 := blk_frozen BK266.out 3
  have p267 : 0 ≤ (x49_4 : Int) := of_decide_eq_true (by with_reducible assumption)
  have q267 : x49_4 < (((rd_T39 l0_0 x26_2).f2).length : Int) := of_decide_eq_true (by with_reducible assumption)
  obtain ⟨ad267, A267_2, c267_2, A267_16, c267_16, e267, hx267_0, hx267_1, hx267_2, hx267_3, hx267_4, hx267_5, hx267_6, hx267_7, hx267_8, hx267_9, hx267_10, hx267_11, hx267_12, hx267_13, hx267_14, hx267_15, hx267_16, hl267_2, hi267_2, hl267_16, hi267_16⟩ := at_T46 HR265_3.out x49_4 p267 q267
  cases e267
  replace hx267_0 := (HB.out.cell (World.block_lt_of_cell? w _ hx267_0)).trans hx267_0
  replace hx267_1 := (HB.out.cell (World.block_lt_of_cell? w _ hx267_1)).trans hx267_1
  replace hx267_2 := (HB.out.cell (World.block_lt_of_cell? w _ hx267_2)).trans hx267_2
  replace hx267_3 := (HB.out.cell (World.block_lt_of_cell? w _ hx267_3)).trans hx267_3
  replace hx267_4 := (HB.out.cell (World.block_lt_of_cell? w _ hx267_4)).trans hx267_4
  replace hx267_5 := (HB.out.cell (World.block_lt_of_cell? w _ hx267_5)).trans hx267_5
  replace hx267_6 := (HB.out.cell (World.block_lt_of_cell? w _ hx267_6)).trans hx267_6
  replace hx267_7 := (HB.out.cell (World.block_lt_of_cell? w _ hx267_7)).trans hx267_7
  replace hx267_8 := (HB.out.cell (World.block_lt_of_cell? w _ hx267_8)).trans hx267_8
  replace hx267_9 := (HB.out.cell (World.block_lt_of_cell? w _ hx267_9)).trans hx267_9
  replace hx267_10 := (HB.out.cell (World.block_lt_of_cell? w _ hx267_10)).trans hx267_10
  replace hx267_11 := (HB.out.cell (World.block_lt_of_cell? w _ hx267_11)).trans hx267_11
  replace hx267_12 := (HB.out.cell (World.block_lt_of_cell? w _ hx267_12)).trans hx267_12
  replace hx267_13 := (HB.out.cell (World.block_lt_of_cell? w _ hx267_13)).trans hx267_13
  replace hx267_14 := (HB.out.cell (World.block_lt_of_cell? w _ hx267_14)).trans hx267_14
  replace hx267_15 := (HB.out.cell (World.block_lt_of_cell? w _ hx267_15)).trans hx267_15
  replace hx267_16 := (HB.out.cell (World.block_lt_of_cell? w _ hx267_16)).trans hx267_16
  have HR267_2 := Aside0.mk hi267_2
  have HC267_2 := Aside0.mk hl267_2
  clear hi267_2 hl267_2
  have HR267_16 := Aside0.mk hi267_16
  have HC267_16 := Aside0.mk hl267_16
  clear hi267_16 hl267_16
  replace p267 := eq_true p267
  replace q267 := eq_true q267
  have p268 : 0 ≤ (x49_4 : Int) := of_decide_eq_true (by with_reducible assumption)
  have q268 : x49_4 < (((rd_T39 l0_0 x26_2).f2).length : Int) := of_decide_eq_true (by with_reducible assumption)
  obtain ⟨ad268, A268_2, c268_2, A268_16, c268_16, e268, hx268_0, hx268_1, hx268_2, hx268_3, hx268_4, hx268_5, hx268_6, hx268_7, hx268_8, hx268_9, hx268_10, hx268_11, hx268_12, hx268_13, hx268_14, hx268_15, hx268_16, hl268_2, hi268_2, hl268_16, hi268_16⟩ := at_T46 HR265_3.out x49_4 p268 q268
  obtain rfl : ad267 = ad268 := (by injection e268)
  replace hx268_0 := (HB.out.cell (World.block_lt_of_cell? w _ hx268_0)).trans hx268_0
  replace hx268_1 := (HB.out.cell (World.block_lt_of_cell? w _ hx268_1)).trans hx268_1
  replace hx268_2 := (HB.out.cell (World.block_lt_of_cell? w _ hx268_2)).trans hx268_2
  replace hx268_3 := (HB.out.cell (World.block_lt_of_cell? w _ hx268_3)).trans hx268_3
  replace hx268_4 := (HB.out.cell (World.block_lt_of_cell? w _ hx268_4)).trans hx268_4
  replace hx268_5 := (HB.out.cell (World.block_lt_of_cell? w _ hx268_5)).trans hx268_5
  replace hx268_6 := (HB.out.cell (World.block_lt_of_cell? w _ hx268_6)).trans hx268_6
  replace hx268_7 := (HB.out.cell (World.block_lt_of_cell? w _ hx268_7)).trans hx268_7
  replace hx268_8 := (HB.out.cell (World.block_lt_of_cell? w _ hx268_8)).trans hx268_8
  replace hx268_9 := (HB.out.cell (World.block_lt_of_cell? w _ hx268_9)).trans hx268_9
  replace hx268_10 := (HB.out.cell (World.block_lt_of_cell? w _ hx268_10)).trans hx268_10
  replace hx268_11 := (HB.out.cell (World.block_lt_of_cell? w _ hx268_11)).trans hx268_11
  replace hx268_12 := (HB.out.cell (World.block_lt_of_cell? w _ hx268_12)).trans hx268_12
  replace hx268_13 := (HB.out.cell (World.block_lt_of_cell? w _ hx268_13)).trans hx268_13
  replace hx268_14 := (HB.out.cell (World.block_lt_of_cell? w _ hx268_14)).trans hx268_14
  replace hx268_15 := (HB.out.cell (World.block_lt_of_cell? w _ hx268_15)).trans hx268_15
  replace hx268_16 := (HB.out.cell (World.block_lt_of_cell? w _ hx268_16)).trans hx268_16
  have HR268_2 := Aside0.mk hi268_2
  have HC268_2 := Aside0.mk hl268_2
  clear hi268_2 hl268_2
  have HR268_16 := Aside0.mk hi268_16
  have HC268_16 := Aside0.mk hl268_16
  clear hi268_16 hl268_16
  replace p268 := eq_true p268
  replace q268 := eq_true q268
  have ea_ := Option.some.inj (hx267_2.symm.trans hx268_2)
  injection ea_ with ea_ en_ ec_
  subst ea_
  subst ec_
  clear en_
  have ea_ := Option.some.inj (hx267_16.symm.trans hx268_16)
  injection ea_ with ea_ en_ ec_
  subst ea_
  subst ec_
  clear en_
  go_wp2
  go_wp2
  repeat (go_quiet (fail); try go_wp2)
  go_ret
  exact ⟨by first | rfl | (simp [errW_none, errW_some] <;> rfl) | (simp [*, errW_none, errW_some] <;> rfl), by repeat (first | (with_reducible first | exact HB.out | apply below_alloc | apply pw_below_drewN | apply below_drew1 | refine below_set ?_ GE264.out | refine below_set ?_ GE266.out) | exact HB.out)⟩
 rw [if_neg c30] at H
 have c30b0 := decide_eq_false c30
 have c30b1 : decide (30 < ((rd_T46 ((rd_T39 l0_0 x26_2).f2) x49_4).f6).length) = false := decide_eq_false (by omega)
 clear c30
 by_cases c33 : (((rd_T46 ((rd_T39 l0_0 x26_2).f2) x49_4).f1.f1).length : Int) > 10
 case pos =>
  rw [if_pos c33] at H
  have c33b0 := decide_eq_true c33
  have c33b1 : decide (10 < ((rd_T46 ((rd_T39 l0_0 x26_2).f2) x49_4).f1.f1).length) = true := decide_eq_true (by omega)
  clear c33
  obtain rfl := Option.some.inj H
  have hnb34 := NB266_264.out
  have hnc34 := NB264_266.out
  have hcz35_0 : wr.cell? ⟨gb266, 0, none⟩ = some (.string ((rd_T39 l0_0 x26_2).f0.f0)) := (blk_cell BK266.out 0).trans rfl
  have hcz35_1 : wr.cell? ⟨gb266, 1, none⟩ = some (.slice A265_1 ((rd_T39 l0_0 x26_2).f0.f1).length c265_1) := (blk_cell BK266.out 1).trans rfl
  have hcz35_2 : wr.cell? ⟨gb266, 2, none⟩ = some (.int .i64 ((rd_T39 l0_0 x26_2).f1)) := (blk_cell BK266.out 2).trans rfl
  have hcz35_3 : wr.cell? ⟨gb266, 3, none⟩ = some (.slice A265_3 ((rd_T39 l0_0 x26_2).f2).length c265_3) := (blk_cell BK266.out 3).trans rfl
  have hfz35_0 := blk_frozen BK266.out 0
  have hfz35_1 := blk_frozen BK266.out 1
  have hfz35_2 := blk_frozen BK266.out 2
  have hfz35_3 := blk_frozen BK266.out 3
  have p267 : 0 ≤ (x49_4 : Int) := of_decide_eq_true (by with_reducible assumption)
  have q267 : x49_4 < (((rd_T39 l0_0 x26_2).f2).length : Int) := of_decide_eq_true (by with_reducible assumption)
  obtain ⟨ad267, A267_2, c267_2, A267_16, c267_16, e267, hx267_0, hx267_1, hx267_2, hx267_3, hx267_4, hx267_5, hx267_6, hx267_7, hx267_8, hx267_9, hx267_10, hx267_11, hx267_12, hx267_13, hx267_14, hx267_15, hx267_16, hl267_2, hi267_2, hl267_16, hi267_16⟩ := at_T46 HR265_3.out x49_4 p267 q267
  cases e267
  replace hx267_0 := (HB.out.cell (World.block_lt_of_cell? w _ hx267_0)).trans hx267_0
  replace hx267_1 := (HB.out.cell (World.block_lt_of_cell? w _ hx267_1)).trans hx267_1
  replace hx267_2 := (HB.out.cell (World.block_lt_of_cell? w _ hx267_2)).trans hx267_2
  replace hx267_3 := (HB.out.cell (World.block_lt_of_cell? w _ hx267_3)).trans hx267_3
  replace hx267_4 := (HB.out.cell (World.block_lt_of_cell? w _ hx267_4)).trans hx267_4
  replace hx267_5 := (HB.out.cell (World.block_lt_of_cell? w _ hx267_5)).trans hx267_5
  replace hx267_6 := (HB.out.cell (World.block_lt_of_cell? w _ hx267_6)).trans hx267_6
  replace hx267_7 := (HB.out.cell (World.block_lt_of_cell? w _ hx267_7)).trans hx267_7
  replace hx267_8 := (HB.out.cell (World.block_lt_of_cell? w _ hx267_8)).trans hx267_8
  replace hx267_9 := (HB.out.cell (World.block_lt_of_cell? w _ hx267_9)).trans hx267_9
  replace hx267_10 := (HB.out.cell (World.block_lt_of_cell? w _ hx267_10)).trans hx267_10
  replace hx267_11 := (HB.out.cell (World.block_lt_of_cell? w _ hx267_11)).trans hx267_11
  replace hx267_12 := (HB.out.cell (World.block_lt_of_cell? w _ hx267_12)).trans hx267_12
  replace hx267_13 := (HB.out.cell (World.block_lt_of_cell? w _ hx267_13)).trans hx267_13
  replace hx267_14 := (HB.out.cell (World.block_lt_of_cell? w _ hx267_14)).trans hx267_14
  replace hx267_15 := (HB.out.cell (World.block_lt_of_cell? w _ hx267_15)).trans hx267_15
  replace hx267_16 := (HB.out.cell (World.block_lt_of_cell? w _ hx267_16)).trans hx267_16
  have HR267_2 := Aside0.mk hi267_2
  have HC267_2 := Aside0.mk hl267_2
  clear hi267_2 hl267_2
  have HR267_16 := Aside0.mk hi267_16
  have HC267_16 := Aside0.mk hl267_16
  clear hi267_16 hl267_16
  replace p267 := eq_true p267
  replace q267 := eq_true q267
  have p268 : 0 ≤ (x49_4 : Int) := of_decide_eq_true (by with_reducible assumption)
  have q268 : x49_4 < (((rd_T39 l0_0 x26_2).f2).length : Int) := of_decide_eq_true (by with_reducible assumption)
  obtain ⟨ad268, A268_2, c268_2, A268_16, c268_16, e268, hx268_0, hx268_1, hx268_2, hx268_3, hx268_4, hx268_5, hx268_6, hx268_7, hx268_8, hx268_9, hx268_10, hx268_11, hx268_12, hx268_13, hx268_14, hx268_15, hx268_16, hl268_2, hi268_2, hl268_16, hi268_16⟩ := at_T46 HR265_3.out x49_4 p268 q268
  obtain rfl : ad267 = ad268 := (by injection e268)
  replace hx268_0 := (HB.out.cell (World.block_lt_of_cell? w _ hx268_0)).trans hx268_0
  replace hx268_1 := (HB.out.cell (World.block_lt_of_cell? w _ hx268_1)).trans hx268_1
  replace hx268_2 := (HB.out.cell (World.block_lt_of_cell? w _ hx268_2)).trans hx268_2
  replace hx268_3 := (HB.out.cell (World.block_lt_of_cell? w _ hx268_3)).trans hx268_3
  replace hx268_4 := (HB.out.cell (World.block_lt_of_cell? w _ hx268_4)).trans hx268_4
  replace hx268_5 := (HB.out.cell (World.block_lt_of_cell? w _ hx268_5)).trans hx268_5
  replace hx268_6 := (HB.out.cell (World.block_lt_of_cell? w _ hx268_6)).trans hx268_6
  replace hx268_7 := (HB.out.cell (World.block_lt_of_cell? w _ hx268_7)).trans hx268_7
  replace hx268_8 := (HB.out.cell (World.block_lt_of_cell? w _ hx268_8)).trans hx268_8
  replace hx268_9 := (HB.out.cell (World.block_lt_of_cell? w _ hx268_9)).trans hx268_9
  replace hx268_10 := (HB.out.cell (World.block_lt_of_cell? w _ hx268_10)).trans hx268_10
  replace hx268_11 := (HB.out.cell (World.block_lt_of_cell? w _ hx268_11)).trans hx268_11
  replace hx268_12 := (HB.out.cell (World.block_lt_of_cell? w _ hx268_12)).trans hx268_12
  replace hx268_13 := (HB.out.cell (World.block_lt_of_cell? w _ hx268_13)).trans hx268_13
  replace hx268_14 := (HB.out.cell (World.block_lt_of_cell? w _ hx268_14)).trans hx268_14
  replace hx268_15 := (HB.out.cell (World.block_lt_of_cell? w _ hx268_15)).trans hx268_15
  replace hx268_16 := (HB.out.cell (World.block_lt_of_cell? w _ hx268_16)).trans hx268_16
  have HR268_2 := Aside0.mk hi268_2
  have HC268_2 := Aside0.mk hl268_2
  clear hi268_2 hl268_2
  have HR268_16 := Aside0.mk hi268_16
  have HC268_16 := Aside0.mk hl268_16
  clear hi268_16 hl268_16
  replace p268 := eq_true p268
  replace q268 := eq_true q268
  have ea_ := Option.some.inj (hx267_2.symm.trans hx268_2)
  injection ea_ with ea_ en_ ec_
  subst ea_
  subst ec_
  clear en_
  have ea_ := Option.some.inj (hx267_16.symm.trans hx268_16)
  injection ea_ with ea_ en_ ec_
  subst ea_
  subst ec_
  clear en_
  have p269 : 0 ≤ (x49_4 : Int) := of_decide_eq_true (by with_reducible assumption)
  have q269 : x49_4 < (((rd_T39 l0_0 x26_2).f2).length : Int) := of_decide_eq_true (by with_reducible assumption)
  obtain ⟨ad269, A269_2, c269_2, A269_16, c269_16, e269, hx269_0, hx269_1, hx269_2, hx269_3, hx269_4, hx269_5, hx269_6, hx269_7, hx269_8, hx269_9, hx269_10, hx269_11, hx269_12, hx269_13, hx269_14, hx269_15, hx269_16, hl269_2, hi269_2, hl269_16, hi269_16⟩ := at_T46 HR265_3.out x49_4 p269 q269
  obtain rfl : ad267 = ad269 := (by injection e269)
  replace hx269_0 := (HB.out.cell (World.block_lt_of_cell? w _ hx269_0)).trans hx269_0
  replace hx269_1 := (HB.out.cell (World.block_lt_of_cell? w _ hx269_1)).trans hx269_1
  replace hx269_2 := (HB.out.cell (World.block_lt_of_cell? w _ hx269_2)).trans hx269_2
  replace hx269_3 := (HB.out.cell (World.block_lt_of_cell? w _ hx269_3)).trans hx269_3
  replace hx269_4 := (HB.out.cell (World.block_lt_of_cell? w _ hx269_4)).trans hx269_4
  replace hx269_5 := (HB.out.cell (World.block_lt_of_cell? w _ hx269_5)).trans hx269_5
  replace hx269_6 := (HB.out.cell (World.block_lt_of_cell? w _ hx269_6)).trans hx269_6
  replace hx269_7 := (HB.out.cell (World.block_lt_of_cell? w _ hx269_7)).trans hx269_7
  replace hx269_8 := (HB.out.cell (World.block_lt_of_cell? w _ hx269_8)).trans hx269_8
  replace hx269_9 := (HB.out.cell (World.block_lt_of_cell? w _ hx269_9)).trans hx269_9
  replace hx269_10 := (HB.out.cell (World.block_lt_of_cell? w _ hx269_10)).trans hx269_10
  replace hx269_11 := (HB.out.cell (World.block_lt_of_cell? w _ hx269_11)).trans hx269_11
  replace hx269_12 := (HB.out.cell (World.block_lt_of_cell? w _ hx269_12)).trans hx269_12
  replace hx269_13 := (HB.out.cell (World.block_lt_of_cell? w _ hx269_13)).trans hx269_13
  replace hx269_14 := (HB.out.cell (World.block_lt_of_cell? w _ hx269_14)).trans hx269_14
  replace hx269_15 := (HB.out.cell (World.block_lt_of_cell? w _ hx269_15)).trans hx269_15
  replace hx269_16 := (HB.out.cell (World.block_lt_of_cell? w _ hx269_16)).trans hx269_16
  have HR269_2 := Aside0.mk hi269_2
  have HC269_2 := Aside0.mk hl269_2
  clear hi269_2 hl269_2
  have HR269_16 := Aside0.mk hi269_16
  have HC269_16 := Aside0.mk hl269_16
  clear hi269_16 hl269_16
  replace p269 := eq_true p269
  replace q269 := eq_true q269
  have ea_ := Option.some.inj (hx267_2.symm.trans hx269_2)
  injection ea_ with ea_ en_ ec_
  subst ea_
  subst ec_
  clear en_
  have ea_ := Option.some.inj (hx267_16.symm.trans hx269_16)
  injection ea_ with ea_ en_ ec_
  subst ea_
  subst ec_
  clear en_
  go_wp2
  go_wp2
  repeat (go_quiet (fail); try go_wp2)
  go_ret
  exact ⟨by first | rfl | (simp [errW_none, errW_some] <;> rfl) | (simp [*, errW_none, errW_some] <;> rfl), by repeat (first | (with_reducible first | exact HB.out | apply below_alloc | apply pw_below_drewN | apply below_drew1 | refine below_set ?_ GE264.out | refine below_set ?_ GE266.out) | exact HB.out)⟩
 rw [if_neg c33] at H
 have c33b0 := decide_eq_false c33
 have c33b1 : decide (10 < ((rd_T46 ((rd_T39 l0_0 x26_2).f2) x49_4).f1.f1).length) = false := decide_eq_false (by omega)
 clear c33
 by_cases c36 : (wrap64 (x7_4 + (((rd_T46 ((rd_T39 l0_0 x26_2).f2) x49_4).f6).length : Int))) > 60
 case pos =>
  rw [if_pos c36] at H
  have c36b0 := decide_eq_true c36
  clear c36
  obtain rfl := Option.some.inj H
  have hnb37 := NB266_264.out
  have hnc37 := NB264_266.out
  have hcz38_0 : wr.cell? ⟨gb266, 0, none⟩ = some (.string ((rd_T39 l0_0 x26_2).f0.f0)) := (blk_cell BK266.out 0).trans rfl
  have hcz38_1 : wr.cell? ⟨gb266, 1, none⟩ = some (.slice A265_1 ((rd_T39 l0_0 x26_2).f0.f1).length c265_1) := (blk_cell BK266.out 1).trans rfl
  have hcz38_2 : wr.cell? ⟨gb266, 2, none⟩ = some (.int .i64 ((rd_T39 l0_0 x26_2).f1)) := (blk_cell BK266.out 2).trans rfl
  have hcz38_3 : wr.cell? ⟨gb266, 3, none⟩ = some (.slice A265_3 ((rd_T39 l0_0 x26_2).f2).length c265_3) := (blk_cell BK266.out 3).trans rfl
  have hfz38_0 := blk_frozen BK266.out 0
  have hfz38_1 := blk_frozen BK266.out 1
  have hfz38_2 := blk_frozen BK266.out 2
  have hfz38_3 := blk_frozen BK266.out 3
  have p267 : 0 ≤ (x49_4 : Int) := of_decide_eq_true (by with_reducible assumption)
  have q267 : x49_4 < (((rd_T39 l0_0 x26_2).f2).length : Int) := of_decide_eq_true (by with_reducible assumption)
  obtain ⟨ad267, A267_2, c267_2, A267_16, c267_16, e267, hx267_0, hx267_1, hx267_2, hx267_3, hx267_4, hx267_5, hx267_6, hx267_7, hx267_8, hx267_9, hx267_10, hx267_11, hx267_12, hx267_13, hx267_14, hx267_15, hx267_16, hl267_2, hi267_2, hl267_16, hi267_16⟩ := at_T46 HR265_3.out x49_4 p267 q267
  cases e267
  replace hx267_0 := (HB.out.cell (World.block_lt_of_cell? w _ hx267_0)).trans hx267_0
  replace hx267_1 := (HB.out.cell (World.block_lt_of_cell? w _ hx267_1)).trans hx267_1
  replace hx267_2 := (HB.out.cell (World.block_lt_of_cell? w _ hx267_2)).trans hx267_2
  replace hx267_3 := (HB.out.cell (World.block_lt_of_cell? w _ hx267_3)).trans hx267_3
  replace hx267_4 := (HB.out.cell (World.block_lt_of_cell? w _ hx267_4)).trans hx267_4
  replace hx267_5 := (HB.out.cell (World.block_lt_of_cell? w _ hx267_5)).trans hx267_5
  replace hx267_6 := (HB.out.cell (World.block_lt_of_cell? w _ hx267_6)).trans hx267_6
  replace hx267_7 := (HB.out.cell (World.block_lt_of_cell? w _ hx267_7)).trans hx267_7
  replace hx267_8 := (HB.out.cell (World.block_lt_of_cell? w _ hx267_8)).trans hx267_8
  replace hx267_9 := (HB.out.cell (World.block_lt_of_cell? w _ hx267_9)).trans hx267_9
  replace hx267_10 := (HB.out.cell (World.block_lt_of_cell? w _ hx267_10)).trans hx267_10
  replace hx267_11 := (HB.out.cell (World.block_lt_of_cell? w _ hx267_11)).trans hx267_11
  replace hx267_12 := (HB.out.cell (World.block_lt_of_cell? w _ hx267_12)).trans hx267_12
  replace hx267_13 := (HB.out.cell (World.block_lt_of_cell? w _ hx267_13)).trans hx267_13
  replace hx267_14 := (HB.out.cell (World.block_lt_of_cell? w _ hx267_14)).trans hx267_14
  replace hx267_15 := (HB.out.cell (World.block_lt_of_cell? w _ hx267_15)).trans hx267_15
  replace hx267_16 := (HB.out.cell (World.block_lt_of_cell? w _ hx267_16)).trans hx267_16
  have HR267_2 := Aside0.mk hi267_2
  have HC267_2 := Aside0.mk hl267_2
  clear hi267_2 hl267_2
  have HR267_16 := Aside0.mk hi267_16
  have HC267_16 := Aside0.mk hl267_16
  clear hi267_16 hl267_16
  replace p267 := eq_true p267
  replace q267 := eq_true q267
  have p268 : 0 ≤ (x49_4 : Int) := of_decide_eq_true (by with_reducible assumption)
  have q268 : x49_4 < (((rd_T39 l0_0 x26_2).f2).length : Int) := of_decide_eq_true (by with_reducible assumption)
  obtain ⟨ad268, A268_2, c268_2, A268_16, c268_16, e268, hx268_0, hx268_1, hx268_2, hx268_3, hx268_4, hx268_5, hx268_6, hx268_7, hx268_8, hx268_9, hx268_10, hx268_11, hx268_12, hx268_13, hx268_14, hx268_15, hx268_16, hl268_2, hi268_2, hl268_16, hi268_16⟩ := at_T46 HR265_3.out x49_4 p268 q268
  obtain rfl : ad267 = ad268 := (by injection e268)
  replace hx268_0 := (HB.out.cell (World.block_lt_of_cell? w _ hx268_0)).trans hx268_0
  replace hx268_1 := (HB.out.cell (World.block_lt_of_cell? w _ hx268_1)).trans hx268_1
  replace hx268_2 := (HB.out.cell (World.block_lt_of_cell? w _ hx268_2)).trans hx268_2
  replace hx268_3 := (HB.out.cell (World.block_lt_of_cell? w _ hx268_3)).trans hx268_3
  replace hx268_4 := (HB.out.cell (World.block_lt_of_cell? w _ hx268_4)).trans hx268_4
  replace hx268_5 := (HB.out.cell (World.block_lt_of_cell? w _ hx268_5)).trans hx268_5
  replace hx268_6 := (HB.out.cell (World.block_lt_of_cell? w _ hx268_6)).trans hx268_6
  replace hx268_7 := (HB.out.cell (World.block_lt_of_cell? w _ hx268_7)).trans hx268_7
  replace hx268_8 := (HB.out.cell (World.block_lt_of_cell? w _ hx268_8)).trans hx268_8
  replace hx268_9 := (HB.out.cell (World.block_lt_of_cell? w _ hx268_9)).trans hx268_9
  replace hx268_10 := (HB.out.cell (World.block_lt_of_cell? w _ hx268_10)).trans hx268_10
  replace hx268_11 := (HB.out.cell (World.block_lt_of_cell? w _ hx268_11)).trans hx268_11
  replace hx268_12 := (HB.out.cell (World.block_lt_of_cell? w _ hx268_12)).trans hx268_12
  replace hx268_13 := (HB.out.cell (World.block_lt_of_cell? w _ hx268_13)).trans hx268_13
  replace hx268_14 := (HB.out.cell (World.block_lt_of_cell? w _ hx268_14)).trans hx268_14
  replace hx268_15 := (HB.out.cell (World.block_lt_of_cell? w _ hx268_15)).trans hx268_15
  replace hx268_16 := (HB.out.cell (World.block_lt_of_cell? w _ hx268_16)).trans hx268_16
  have HR268_2 := Aside0.mk hi268_2
  have HC268_2 := Aside0.mk hl268_2
  clear hi268_2 hl268_2
  have HR268_16 := Aside0.mk hi268_16
  have HC268_16 := Aside0.mk hl268_16
  clear hi268_16 hl268_16
  replace p268 := eq_true p268
  replace q268 := eq_true q268
  have ea_ := Option.some.inj (hx267_2.symm.trans hx268_2)
  injection ea_ with ea_ en_ ec_
  subst ea_
  subst ec_
  clear en_
  have ea_ := Option.some.inj (hx267_16.symm.trans hx268_16)
  injection ea_ with ea_ en_ ec_
  subst ea_
  subst ec_
  clear en_
  have p269 : 0 ≤ (x49_4 : Int) := of_decide_eq_true (by with_reducible assumption)
  have q269 : x49_4 < (((rd_T39 l0_0 x26_2).f2).length : Int) := of_decide_eq_true (by with_reducible assumption)
  obtain ⟨ad269, A269_2, c269_2, A269_16, c269_16, e269, hx269_0, hx269_1, hx269_2, hx269_3, hx269_4, hx269_5, hx269_6, hx269_7, hx269_8, hx269_9, hx269_10, hx269_11, hx269_12, hx269_13, hx269_14, hx269_15, hx269_16, hl269_2, hi269_2, hl269_16, hi269_16⟩ := at_T46 HR265_3.out x49_4 p269 q269
  obtain rfl : ad267 = ad269 := (by injection e269)
  replace hx269_0 := (HB.out.cell (World.block_lt_of_cell? w _ hx269_0)).trans hx269_0
  replace hx269_1 := (HB.out.cell (World.block_lt_of_cell? w _ hx269_1)).trans hx269_1
  replace hx269_2 := (HB.out.cell (World.block_lt_of_cell? w _ hx269_2)).trans hx269_2
  replace hx269_3 := (HB.out.cell (World.block_lt_of_cell? w _ hx269_3)).trans hx269_3
  replace hx269_4 := (HB.out.cell (World.block_lt_of_cell? w _ hx269_4)).trans hx269_4
  replace hx269_5 := (HB.out.cell (World.block_lt_of_cell? w _ hx269_5)).trans hx269_5
  replace hx269_6 := (HB.out.cell (World.block_lt_of_cell? w _ hx269_6)).trans hx269_6
  replace hx269_7 := (HB.out.cell (World.block_lt_of_cell? w _ hx269_7)).trans hx269_7
  replace hx269_8 := (HB.out.cell (World.block_lt_of_cell? w _ hx269_8)).trans hx269_8
  replace hx269_9 := (HB.out.cell (World.block_lt_of_cell? w _ hx269_9)).trans hx269_9
  replace hx269_10 := (HB.out.cell (World.block_lt_of_cell? w _ hx269_10)).trans hx269_10
  replace hx269_11 := (HB.out.cell (World.block_lt_of_cell? w _ hx269_11)).trans hx269_11
  replace hx269_12 := (HB.out.cell (World.block_lt_of_cell? w _ hx269_12)).trans hx269_12
  replace hx269_13 := (HB.out.cell (World.block_lt_of_cell? w _ hx269_13)).trans hx269_13
  replace hx269_14 := (HB.out.cell (World.block_lt_of_cell? w _ hx269_14)).trans hx269_14
  replace hx269_15 := (HB.out.cell (World.block_lt_of_cell? w _ hx269_15)).trans hx269_15
  replace hx269_16 := (HB.out.cell (World.block_lt_of_cell? w _ hx269_16)).trans hx269_16
  have HR269_2 := Aside0.mk hi269_2
  have HC269_2 := Aside0.mk hl269_2
  clear hi269_2 hl269_2
  have HR269_16 := Aside0.mk hi269_16
  have HC269_16 := Aside0.mk hl269_16
  clear hi269_16 hl269_16
  replace p269 := eq_true p269
  replace q269 := eq_true q269
  have ea_ := Option.some.inj (hx267_2.symm.trans hx269_2)
  injection ea_ with ea_ en_ ec_
  subst ea_
  subst ec_
  clear en_
  have ea_ := Option.some.inj (hx267_16.symm.trans hx269_16)
  injection ea_ with ea_ en_ ec_
  subst ea_
  subst ec_
  clear en_
  go_wp2
  go_wp2
  repeat (go_quiet (fail); try go_wp2)
  go_ret
  exact ⟨by first | rfl | (simp [errW_none, errW_some] <;> rfl) | (simp [*, errW_none, errW_some] <;> rfl), by repeat (first | (with_reducible first | exact HB.out | apply below_alloc | apply pw_below_drewN | apply below_drew1 | refine below_set ?_ GE264.out | refine below_set ?_ GE266.out) | exact HB.out)⟩
 rw [if_neg c36] at H
 have c36b0 := decide_eq_false c36
 clear c36
 have H' := Aside0.mk H
 clear H
 have hnb39 := NB266_264.out
 have hnc39 := NB264_266.out
 have hcz40_0 : wr.cell? ⟨gb266, 0, none⟩ = some (.string ((rd_T39 l0_0 x26_2).f0.f0)) := (blk_cell BK266.out 0).trans rfl
 have hcz40_1 : wr.cell? ⟨gb266, 1, none⟩ = some (.slice A265_1 ((rd_T39 l0_0 x26_2).f0.f1).length c265_1) := (blk_cell BK266.out 1).trans rfl
 have hcz40_2 : wr.cell? ⟨gb266, 2, none⟩ = some (.int .i64 ((rd_T39 l0_0 x26_2).f1)) := (blk_cell BK266.out 2).trans rfl
 have hcz40_3 : wr.cell? ⟨gb266, 3, none⟩ = some (.slice A265_3 ((rd_T39 l0_0 x26_2).f2).length c265_3) := (blk_cell BK266.out 3).trans rfl
 have hfz40_0 := blk_frozen BK266.out 0
 have hfz40_1 := blk_frozen BK266.out 1
 have hfz40_2 := blk_frozen BK266.out 2
 have hfz40_3 := blk_frozen BK266.out 3
 have p267 : 0 ≤ (x49_4 : Int) := of_decide_eq_true (by with_reducible assumption)
 have q267 : x49_4 < (((rd_T39 l0_0 x26_2).f2).length : Int) := of_decide_eq_true (by with_reducible assumption)
 obtain ⟨ad267, A267_2, c267_2, A267_16, c267_16, e267, hx267_0, hx267_1, hx267_2, hx267_3, hx267_4, hx267_5, hx267_6, hx267_7, hx267_8, hx267_9, hx267_10, hx267_11, hx267_12, hx267_13, hx267_14, hx267_15, hx267_16, hl267_2, hi267_2, hl267_16, hi267_16⟩ := at_T46 HR265_3.out x49_4 p267 q267
 cases e267
 replace hx267_0 := (HB.out.cell (World.block_lt_of_cell? w _ hx267_0)).trans hx267_0
 replace hx267_1 := (HB.out.cell (World.block_lt_of_cell? w _ hx267_1)).trans hx267_1
 replace hx267_2 := (HB.out.cell (World.block_lt_of_cell? w _ hx267_2)).trans hx267_2
 replace hx267_3 := (HB.out.cell (World.block_lt_of_cell? w _ hx267_3)).trans hx267_3
 replace hx267_4 := (HB.out.cell (World.block_lt_of_cell? w _ hx267_4)).trans hx267_4
 replace hx267_5 := (HB.out.cell (World.block_lt_of_cell? w _ hx267_5)).trans hx267_5
 replace hx267_6 := (HB.out.cell (World.block_lt_of_cell? w _ hx267_6)).trans hx267_6
 replace hx267_7 := (HB.out.cell (World.block_lt_of_cell? w _ hx267_7)).trans hx267_7
 replace hx267_8 := (HB.out.cell (World.block_lt_of_cell? w _ hx267_8)).trans hx267_8
 replace hx267_9 := (HB.out.cell (World.block_lt_of_cell? w _ hx267_9)).trans hx267_9
 replace hx267_10 := (HB.out.cell (World.block_lt_of_cell? w _ hx267_10)).trans hx267_10
 replace hx267_11 := (HB.out.cell (World.block_lt_of_cell? w _ hx267_11)).trans hx267_11
 replace hx267_12 := (HB.out.cell (World.block_lt_of_cell? w _ hx267_12)).trans hx267_12
 replace hx267_13 := (HB.out.cell (World.block_lt_of_cell? w _ hx267_13)).trans hx267_13
 replace hx267_14 := (HB.out.cell (World.block_lt_of_cell? w _ hx267_14)).trans hx267_14
 replace hx267_15 := (HB.out.cell (World.block_lt_of_cell? w _ hx267_15)).trans hx267_15
 replace hx267_16 := (HB.out.cell (World.block_lt_of_cell? w _ hx267_16)).trans hx267_16
 have HR267_2 := Aside0.mk hi267_2
 have HC267_2 := Aside0.mk hl267_2
 clear hi267_2 hl267_2
 have HR267_16 := Aside0.mk hi267_16
 have HC267_16 := Aside0.mk hl267_16
 clear hi267_16 hl267_16
 replace p267 := eq_true p267
 replace q267 := eq_true q267
 have p268 : 0 ≤ (x49_4 : Int) := of_decide_eq_true (by with_reducible assumption)
 have q268 : x49_4 < (((rd_T39 l0_0 x26_2).f2).length : Int) := of_decide_eq_true (by with_reducible assumption)
 obtain ⟨ad268, A268_2, c268_2, A268_16, c268_16, e268, hx268_0, hx268_1, hx268_2, hx268_3, hx268_4, hx268_5, hx268_6, hx268_7, hx268_8, hx268_9, hx268_10, hx268_11, hx268_12, hx268_13, hx268_14, hx268_15, hx268_16, hl268_2, hi268_2, hl268_16, hi268_16⟩ := at_T46 HR265_3.out x49_4 p268 q268
 obtain rfl : ad267 = ad268 := (by injection e268)
 replace hx268_0 := (HB.out.cell (World.block_lt_of_cell? w _ hx268_0)).trans hx268_0
 replace hx268_1 := (HB.out.cell (World.block_lt_of_cell? w _ hx268_1)).trans hx268_1
 replace hx268_2 := (HB.out.cell (World.block_lt_of_cell? w _ hx268_2)).trans hx268_2
 replace hx268_3 := (HB.out.cell (World.block_lt_of_cell? w _ hx268_3)).trans hx268_3
 replace hx268_4 := (HB.out.cell (World.block_lt_of_cell? w _ hx268_4)).trans hx268_4
 replace hx268_5 := (HB.out.cell (World.block_lt_of_cell? w _ hx268_5)).trans hx268_5
 replace hx268_6 := (HB.out.cell (World.block_lt_of_cell? w _ hx268_6)).trans hx268_6
 replace hx268_7 := (HB.out.cell (World.block_lt_of_cell? w _ hx268_7)).trans hx268_7
 replace hx268_8 := (HB.out.cell (World.block_lt_of_cell? w _ hx268_8)).trans hx268_8
 replace hx268_9 := (HB.out.cell (World.block_lt_of_cell? w _ hx268_9)).trans hx268_9
 replace hx268_10 := (HB.out.cell (World.block_lt_of_cell? w _ hx268_10)).trans hx268_10
 replace hx268_11 := (HB.out.cell (World.block_lt_of_cell? w _ hx268_11)).trans hx268_11
 replace hx268_12 := (HB.out.cell (World.block_lt_of_cell? w _ hx268_12)).trans hx268_12
 replace hx268_13 := (HB.out.cell (World.block_lt_of_cell? w _ hx268_13)).trans hx268_13
 replace hx268_14 := (HB.out.cell (World.block_lt_of_cell? w _ hx268_14)).trans hx268_14
 replace hx268_15 := (HB.out.cell (World.block_lt_of_cell? w _ hx268_15)).trans hx268_15
 replace hx268_16 := (HB.out.cell (World.block_lt_of_cell? w _ hx268_16)).trans hx268_16
 have HR268_2 := Aside0.mk hi268_2
 have HC268_2 := Aside0.mk hl268_2
 clear hi268_2 hl268_2
 have HR268_16 := Aside0.mk hi268_16
 have HC268_16 := Aside0.mk hl268_16
 clear hi268_16 hl268_16
 replace p268 := eq_true p268
 replace q268 := eq_true q268
 have ea_ := Option.some.inj (hx267_2.symm.trans hx268_2)
 injection ea_ with ea_ en_ ec_
 subst ea_
 subst ec_
 clear en_
 have ea_ := Option.some.inj (hx267_16.symm.trans hx268_16)
 injection ea_ with ea_ en_ ec_
 subst ea_
 subst ec_
 clear en_
 have p269 : 0 ≤ (x49_4 : Int) := of_decide_eq_true (by with_reducible assumption)
 have q269 : x49_4 < (((rd_T39 l0_0 x26_2).f2).length : Int) := of_decide_eq_true (by with_reducible assumption)
 obtain ⟨ad269, A269_2, c269_2, A269_16, c269_16, e269, hx269_0, hx269_1, hx269_2, hx269_3, hx269_4, hx269_5, hx269_6, hx269_7, hx269_8, hx269_9, hx269_10, hx269_11, hx269_12, hx269_13, hx269_14, hx269_15, hx269_16, hl269_2, hi269_2, hl269_16, hi269_16⟩ := at_T46 HR265_3.out x49_4 p269 q269
 obtain rfl : ad267 = ad269 := (by injection e269)
 replace hx269_0 := (HB.out.cell (World.block_lt_of_cell? w _ hx269_0)).trans hx269_0
 replace hx269_1 := (HB.out.cell (World.block_lt_of_cell? w _ hx269_1)).trans hx269_1
 replace hx269_2 := (HB.out.cell (World.block_lt_of_cell? w _ hx269_2)).trans hx269_2
 replace hx269_3 := (HB.out.cell (World.block_lt_of_cell? w _ hx269_3)).trans hx269_3
 replace hx269_4 := (HB.out.cell (World.block_lt_of_cell? w _ hx269_4)).trans hx269_4
 replace hx269_5 := (HB.out.cell (World.block_lt_of_cell? w _ hx269_5)).trans hx269_5
 replace hx269_6 := (HB.out.cell (World.block_lt_of_cell? w _ hx269_6)).trans hx269_6
 replace hx269_7 := (HB.out.cell (World.block_lt_of_cell? w _ hx269_7)).trans hx269_7
 replace hx269_8 := (HB.out.cell (World.block_lt_of_cell? w _ hx269_8)).trans hx269_8
 replace hx269_9 := (HB.out.cell (World.block_lt_of_cell? w _ hx269_9)).trans hx269_9
 replace hx269_10 := (HB.out.cell (World.block_lt_of_cell? w _ hx269_10)).trans hx269_10
 replace hx269_11 := (HB.out.cell (World.block_lt_of_cell? w _ hx269_11)).trans hx269_11
 replace hx269_12 := (HB.out.cell (World.block_lt_of_cell? w _ hx269_12)).trans hx269_12
 replace hx269_13 := (HB.out.cell (World.block_lt_of_cell? w _ hx269_13)).trans hx269_13
 replace hx269_14 := (HB.out.cell (World.block_lt_of_cell? w _ hx269_14)).trans hx269_14
 replace hx269_15 := (HB.out.cell (World.block_lt_of_cell? w _ hx269_15)).trans hx269_15
 replace hx269_16 := (HB.out.cell (World.block_lt_of_cell? w _ hx269_16)).trans hx269_16
 have HR269_2 := Aside0.mk hi269_2
 have HC269_2 := Aside0.mk hl269_2
 clear hi269_2 hl269_2
 have HR269_16 := Aside0.mk hi269_16
 have HC269_16 := Aside0.mk hl269_16
 clear hi269_16 hl269_16
 replace p269 := eq_true p269
 replace q269 := eq_true q269
 have ea_ := Option.some.inj (hx267_2.symm.trans hx269_2)
 injection ea_ with ea_ en_ ec_
 subst ea_
 subst ec_
 clear en_
 have ea_ := Option.some.inj (hx267_16.symm.trans hx269_16)
 injection ea_ with ea_ en_ ec_
 subst ea_
 subst ec_
 clear en_
 go_wp2
 go_wp2
 repeat (go_quiet (fail); try go_wp2)
 go_roundg k4
 case measure => have := HJ3.out; have := HK2.out; have := HJ13.out; have := HK4.out; omega
 case rel => exact ⟨(wrap64 (x7_4 + (((rd_T46 ((rd_T39 l0_0 x26_2).f2) x49_4).f6).length : Int))), (wrap64 (x49_4 + 1)), (by first | rfl | (simp; done) | (simp [*]; done)), (by first | rfl | (simp; done) | (simp [*]; done)), H', ⟨by have := HJ3.out; have := HK2.out; have := HJ13.out; have := HK4.out; omega⟩, ⟨by (with_reducible repeat (first | refine blk_drewN ?_ _ | refine blk_drew ?_ | refine blk_alloc ?_ _)); exact BK264.out⟩, ⟨by (with_reducible repeat (first | refine blk_drewN ?_ _ | refine blk_drew ?_ | refine blk_alloc ?_ _)); exact BK266.out⟩, ⟨by repeat (first | (with_reducible first | exact HB.out | apply below_alloc | apply pw_below_drewN | apply below_drew1 | refine below_set ?_ GE264.out | refine below_set ?_ GE266.out) | exact HB.out)⟩⟩
end Go.Proofs.Ytfkilcegdajdcaa.PZ
