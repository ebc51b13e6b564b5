
/- comps.seen: what it returns (its goto as a loop): proved by hand, out of a printed text that was turned. -/
import Derived.Test.YtfkilcegdajdcaaPZx0
import Derived.ScopeJumps
import Derived.WalkMore
namespace Go.Proofs.Ytfkilcegdajdcaa.PZ
open Go.RowKit Go.Proofs.YtfkilcegdajdcaaW.PrintWords Go.Proofs.YtfkilcegdajdcaaW.PrintLast Go.Proofs.YtfkilcegdajdcaaW.PrintMore
attribute [local go_sem] max2_int min2_int max_two min_two max_three min_three max_four min_four   -- for this text's walks alone
set_option linter.unusedVariables false
set_option linter.unusedSimpArgs false
theorem info4 : (Try.prog.info? 4).map (fun i => (i.zero, i.size, i.bytes)) = some (some (.bool false), 1, 1) := by kernel_rfl
theorem wp_scope_goto {P : Program} {a : Act} {w : World} {Q : Exit → Act → World → Prop} {c rest : Code} (l : Nat) (I : Nat → Act → World → Prop) (hf : findLabel c l = some (.seq .skip rest))
 (round : ∀ n a w, I n a w → rest.wp P (Exit.jump l (fun a' w' => ∃ n', n' < n ∧ I n' a' w') Q) a w)
 (first : (∀ n a w, I n a w → rest.wp P (Exit.jump l (fun a w => ∃ n, I n a w) Q) a w) → c.wp P (Exit.jump l (fun a w => ∃ n, I n a w) Q) a w) : (Code.scope c).wp P Q a w := by
 have up : ∀ (J J' : Act → World → Prop), (∀ a w, J a w → J' a w) → ∀ e a w, Exit.jump l J Q e a w → Exit.jump l J' Q e a w := by
  intro J J' hJ e a w h
  cases e with
  | goto l' => exact ⟨h.1, hJ _ _ h.2⟩
  | normal => exact h
  | exit id => exact h
  | ret => exact h
  | panic ch => exact h
  | outgrown => exact h
 refine wp_scope_jumps l (fun a w => ∃ n, I n a w) (fun a w => leastOf (fun n => I n a w)) hf (first fun n a w h => wp_mono (round n a w h) (up _ _ fun _ _ ⟨n', _, h'⟩ => ⟨n', h'⟩)) ?_
 intro a w hI
 refine wp_seq (wp_skip ?_)
 refine wp_mono (round _ a w (leastOf_spec hI).1) (up _ _ ?_)
 rintro a' w' ⟨n', hlt, hI'⟩
 exact ⟨⟨n', hI'⟩, Nat.lt_of_le_of_lt ((leastOf_spec ⟨n', hI'⟩).2 n' hI') hlt⟩
mutual
def comps_seen.j0 : Nat → List (List Int) → Int → List Bool → List Int → Bool → Option (List Bool)
  | 0, _, _, _, _, _ => none
  | k + 1, x0, x1, x5, x6, x20 => if x20 = true then (if x6.length < 17592186044416 then (if 0 ≤ x1 then (if x1 < (x5.length : Int) then (comps_seen.j1 k x0 (x5.set (x1 : Int).toNat true) (x6 ++ [x1])) else (none)) else (none)) else (none)) else (comps_seen.j1 k x0 x5 x6)
def comps_seen.j1 : Nat → List (List Int) → List Bool → List Int → Option (List Bool)
  | 0, _, _, _ => none
  | k + 1, x0, x5, x6 => comps_seen.l0 k x0 x5 x6
def comps_seen.l0 : Nat → List (List Int) → List Bool → List Int → Option (List Bool)
  | 0, _, _, _ => none
  | k + 1, x0, x5, x6 => if (x6.length : Int) = 0 then (some x5) else (if 0 ≤ (wrap64 ((x6.length : Int) - 1)) then (if (wrap64 ((x6.length : Int) - 1)) < (x6.length : Int) then (if (wrap64 ((x6.length : Int) - 1)) ≤ (x6.length : Int) then (if 0 ≤ (rd x6 (wrap64 ((x6.length : Int) - 1))) then (if (rd x6 (wrap64 ((x6.length : Int) - 1))) < (x0.length : Int) then (comps_seen.l1 k x0 x5 (x6.take ((wrap64 ((x6.length : Int) - 1)) : Int).toNat) (rd_L7 x0 (rd x6 (wrap64 ((x6.length : Int) - 1)))) ((rd_L7 x0 (rd x6 (wrap64 ((x6.length : Int) - 1)))).length : Int) 0) else (none)) else (none)) else (none)) else (none)) else (none))
def comps_seen.l1 : Nat → List (List Int) → List Bool → List Int → List Int → Int → Int → Option (List Bool)
  | 0, _, _, _, _, _, _ => none
  | k + 1, x0, x5, x6, x46, x47, x48 => if x48 < x47 then (if 0 ≤ x48 then (if x48 < (x46.length : Int) then (if 0 ≤ (rd x46 x48) then (if (rd x46 x48) < (x5.length : Int) then (if (rdOf false x5 (rd x46 x48) = true) then (comps_seen.l1 k x0 x5 x6 x46 x47 (wrap64 (x48 + 1))) else (if x6.length < 17592186044416 then (comps_seen.l1 k x0 (x5.set ((rd x46 x48) : Int).toNat true) (x6 ++ [rd x46 x48]) x46 x47 (wrap64 (x48 + 1))) else (none))) else (none)) else (none)) else (none)) else (none)) else (comps_seen.l0 k x0 x5 x6)
end
def comps_seen.f (k : Nat) (l0 : List (List Int)) (a1 : Int) : Option (List Bool) := if 0 ≤ (l0.length : Int) then (if ((l0.length : Int) : Int).toNat ≤ 281474976710656 then ((some (List.replicate ((l0.length : Int) : Int).toNat false : List Bool)).bind fun y101 => (if a1 ≥ 0 then (comps_seen.j0 k l0 a1 y101 ([] : List Int) (decide (a1 < (l0.length : Int)))) else (comps_seen.j0 k l0 a1 y101 ([] : List Int) false))) else (none)) else (none)
theorem comps_seen.mono_l : ∀ k, (∀ y0 y1 y2 y3 y4, LeO (comps_seen.j0 k y0 y1 y2 y3 y4) (comps_seen.j0 (k + 1) y0 y1 y2 y3 y4)) ∧ (∀ y0 y1 y2, LeO (comps_seen.j1 k y0 y1 y2) (comps_seen.j1 (k + 1) y0 y1 y2)) ∧ (∀ y0 y1 y2, LeO (comps_seen.l0 k y0 y1 y2) (comps_seen.l0 (k + 1) y0 y1 y2)) ∧ (∀ y0 y1 y2 y3 y4 y5, LeO (comps_seen.l1 k y0 y1 y2 y3 y4 y5) (comps_seen.l1 (k + 1) y0 y1 y2 y3 y4 y5))
  | 0 => ⟨fun _ _ _ _ _ r h => by simp [comps_seen.j0] at h, fun _ _ _ r h => by simp [comps_seen.j1] at h, fun _ _ _ r h => by simp [comps_seen.l0] at h, fun _ _ _ _ _ _ r h => by simp [comps_seen.l1] at h⟩
  | k + 1 => by
    obtain ⟨ih0, ih1, ih2, ih3⟩ := comps_seen.mono_l k
    refine ⟨?_, ?_, ?_, ?_⟩
    all_goals
      intros
      first | unfold comps_seen.j0 | unfold comps_seen.j1 | unfold comps_seen.l0 | unfold comps_seen.l1
      repeat' first
      | (with_reducible exact ih0 _ _ _ _ _)
      | (with_reducible exact ih1 _ _ _)
      | (with_reducible exact ih2 _ _ _)
      | (with_reducible exact ih3 _ _ _ _ _ _)
      | (with_reducible exact LeO.refl _)
      | (with_reducible exact LeO.none _)
      | (with_reducible refine LeO.ite ?_ ?_)
      | (with_reducible refine LeO.bind ?_ (fun _ => ?_))
theorem comps_seen.mono : ∀ a0 a1 k, LeO (comps_seen.f k a0 a1) (comps_seen.f (k + 1) a0 a1) := by
 intro a0 a1 k
 obtain ⟨ih0, ih1, ih2, ih3⟩ := comps_seen.mono_l k
 unfold comps_seen.f
 repeat' first
  | (with_reducible exact ih0 _ _ _ _ _)
  | (with_reducible exact ih1 _ _ _)
  | (with_reducible exact ih2 _ _ _)
  | (with_reducible exact ih3 _ _ _ _ _ _)
  | (with_reducible exact LeO.refl _)
  | (with_reducible exact LeO.none _)
  | (with_reducible refine LeO.ite ?_ ?_)
  | (with_reducible refine LeO.bind ?_ (fun _ => ?_))
set_option maxHeartbeats 8000000 in
set_option maxRecDepth 100000 in
theorem comps_seen.calls (k : Nat) (A0 : Option Addr) (c0 : Nat) (l0 : List (List Int)) (a1 : Int) (r : List Bool) (w : World) (hr0 : Kd.C (Kd.slice 3 (Kd.int .i64)) w A0 l0.length l0) (hc0 : l0.length ≤ c0) (h : comps_seen.f k l0 a1 = some r) :
 Calls Try.prog 36 #[.slice A0 l0.length c0, .int .i64 a1] w fun e w' => ∃ v0_ : Value, e = .returned (v0_) ∧ Kd.R Kd.bool 4 w' w.heap.size (fun _ => True) v0_ r ∧ Below w.heap.size w w' := by
 have HR0 := Aside0.mk hr0
 have HC0 := Aside0.mk hc0
 clear hr0 hc0
 have HB := Aside0.mk (Below.refl w.heap.size w)
 have H : (if 0 ≤ (l0.length : Int) then (if ((l0.length : Int) : Int).toNat ≤ 281474976710656 then ((some (List.replicate ((l0.length : Int) : Int).toNat false : List Bool)).bind fun y101 => (if a1 ≥ 0 then (comps_seen.j0 k l0 a1 y101 ([] : List Int) (decide (a1 < (l0.length : Int)))) else (comps_seen.j0 k l0 a1 y101 ([] : List Int) false))) else (none)) else (none)) = some r := h
 clear h
 by_cases c3 : 0 ≤ (l0.length : Int)
 case neg => rw [if_neg c3] at H; exact absurd H (by simp)
 rw [if_pos c3] at H
 have c3b0 := eq_true c3
 have c3b1 := decide_eq_true c3
 clear c3
 by_cases c4 : ((l0.length : Int) : Int).toNat ≤ 281474976710656
 case neg => rw [if_neg c4] at H; exact absurd H (by simp)
 rw [if_pos c4] at H
 have c4b0 := eq_true c4
 have c4b1 := decide_eq_true c4
 clear c4
 obtain ⟨y101, hy101⟩ : ∃ y_ : List Bool, y_ = (List.replicate ((l0.length : Int) : Int).toNat false) := ⟨_, rfl⟩
 replace H : (if a1 ≥ 0 then (comps_seen.j0 k l0 a1 y101 ([] : List Int) (decide (a1 < (l0.length : Int)))) else (comps_seen.j0 k l0 a1 y101 ([] : List Int) false)) = some r := by first | (rw [hy101]; with_reducible exact H) | (have H2_ := (Option.bind_some _ _).symm.trans H; rw [hy101]; with_reducible exact H2_) | (have H2_ := (Option.bind_some _ _).symm.trans H; with_reducible exact H2_) | with_reducible exact H | (rw [hy101]; exact H) | exact H
 have Ny101 := Aside0.mk hy101
 clear hy101
 have HC5 := Aside0.mk H
 clear H
 go_enter Try.func36, Try.ntmps36
 go_wp2
 refine wp_scope_goto 0 (fun kq a_ w_ => ∃ (x5_3 : List Bool) (x6_3 : List Int) (v5 v6 u2 u3 u4 u7 u8 u9 u10 u11 u12 u13 u14 u15 u16 u17 u18 u19 u20 u21 u22 u23 u24 u25 u26 u27 u28 u29 u30 u31 u32 u33 u34 u35 u36 u37 u38 u39 u40 u41 u42 u43 u44 u45 u46 u47 u48 u49 u50 u51 u52 u53 u54 u55 u56 u57 u58 u59 u60 u61 u62 u63 u64 : Value), a_ = (⟨#[.slice A0 l0.length c0, .int .i64 a1, u2, u3, u4, v5, v6, u7, u8, u9, u10, u11, u12, u13, u14, u15, u16, u17, u18, u19, u20, u21, u22, u23, u24, u25, u26, u27, u28, u29, u30, u31, u32, u33, u34, u35, u36, u37, u38, u39, u40, u41, u42, u43, u44, u45, u46, u47, u48, u49, u50, u51, u52, u53, u54, u55, u56, u57, u58, u59, u60, u61, u62, u63, u64], []⟩ : Act) ∧ Aside0 (comps_seen.l0 kq l0 x5_3 x6_3 = some r) ∧ Aside0 (Kd.R Kd.bool 4 w_ w.heap.size (fun _ => True) v5 x5_3) ∧ Aside0 (Kd.R (Kd.int .i64) 3 w_ w.heap.size (fun _ => True) v6 x6_3) ∧ Aside0 (Below w.heap.size w w_)) rfl ?round ?first
 case round =>
  rintro kq a_ wr ⟨x5_3, x6_3, v5, v6, u2, u3, u4, u7, u8, u9, u10, u11, u12, u13, u14, u15, u16, u17, u18, u19, u20, u21, u22, u23, u24, u25, u26, u27, u28, u29, u30, u31, u32, u33, u34, u35, u36, u37, u38, u39, u40, u41, u42, u43, u44, u45, u46, u47, u48, u49, u50, u51, u52, u53, u54, u55, u56, u57, u58, u59, u60, u61, u62, u63, u64, rfl, HA, HO_5, HO_6, HB⟩
  clear HC5
  obtain _ | k3 := kq
  · exact absurd HA.out (by simp [comps_seen.l0])
  have H := HA.out
  clear HA
  simp only [comps_seen.l0] at H
  by_cases c18 : (x6_3.length : Int) = 0
  case pos =>
   rw [if_pos c18] at H
   have c18b0 := beq_iff_eq.mpr c18
   have c18b1 := bne_eq_false_iff_eq.mpr c18
   clear c18
   obtain rfl := Option.some.inj H
   obtain ⟨Ao19, co19, eo19⟩ := Kd.R_slice HO_6.out
   subst eo19
   go_wp2
   (try simp only [Exit.jump])
   go_ret
   exact ⟨_, by first | rfl | (simp [errW_none, errW_some] <;> rfl) | (simp [*, errW_none, errW_some] <;> rfl), by (with_reducible repeat (first | apply Kd.R_alloc | apply Kd.R_drewN | apply Kd.R_drew)); exact HO_5.out, by repeat (first | (with_reducible first | exact HB.out | apply below_alloc | apply pw_below_drewN | apply below_drew1) | exact HB.out)⟩
  rw [if_neg c18] at H
  have c18b0 := beq_eq_false_iff_ne.mpr c18
  have c18b1 := bne_iff_ne.mpr c18
  have c18b2 : ¬ (x6_3 = []) := fun h_ => c18 (by rw [h_]; rfl)
  obtain ⟨ji20, hji20⟩ : ∃ j_ : Int, (wrap64 ((x6_3.length : Int) - 1)) = j_ := ⟨_, rfl⟩
  replace H : (if 0 ≤ (ji20) then (if (ji20) < (x6_3.length : Int) then (if (ji20) ≤ (x6_3.length : Int) then (if 0 ≤ (rd x6_3 (ji20)) then (if (rd x6_3 (ji20)) < (l0.length : Int) then (comps_seen.l1 k3 l0 x5_3 (x6_3.take ((ji20) : Int).toNat) (rd_L7 l0 (rd x6_3 (ji20))) ((rd_L7 l0 (rd x6_3 (ji20))).length : Int) 0) else (none)) else (none)) else (none)) else (none)) else (none)) = some r := by first | (rw [hji20] at H; exact H) | (simp only [hji20] at H ⊢; exact H)
  have hji20w : (IntKind.i64.wrap ((x6_3.length : Int) - 1)) = ji20 := (i64_w _).trans hji20
  by_cases c21 : 0 ≤ (ji20)
  case neg => rw [if_neg c21] at H; exact absurd H (by simp)
  rw [if_pos c21] at H
  have c21b0 := decide_eq_true c21
  clear c21
  by_cases c22 : (ji20) < (x6_3.length : Int)
  case neg => rw [if_neg c22] at H; exact absurd H (by simp)
  rw [if_pos c22] at H
  have c22b0 := decide_eq_true c22
  clear c22
  by_cases c23 : (ji20) ≤ (x6_3.length : Int)
  case neg => rw [if_neg c23] at H; exact absurd H (by simp)
  rw [if_pos c23] at H
  have c23b0 := eq_true c23
  have c23b1 := decide_eq_true c23
  clear c23
  obtain ⟨y109, hy109⟩ : ∃ y_ : List Int, y_ = (x6_3.take ((ji20) : Int).toNat) := ⟨_, rfl⟩
  replace H : (if 0 ≤ (rd x6_3 (ji20)) then (if (rd x6_3 (ji20)) < (l0.length : Int) then (comps_seen.l1 k3 l0 x5_3 y109 (rd_L7 l0 (rd x6_3 (ji20))) ((rd_L7 l0 (rd x6_3 (ji20))).length : Int) 0) else (none)) else (none)) = some r := by first | (rw [hy109]; with_reducible exact H) | (have H2_ := (Option.bind_some _ _).symm.trans H; rw [hy109]; with_reducible exact H2_) | (have H2_ := (Option.bind_some _ _).symm.trans H; with_reducible exact H2_) | with_reducible exact H | (rw [hy109]; exact H) | exact H
  have Ny109 := Aside0.mk hy109
  clear hy109
  by_cases c24 : 0 ≤ (rd x6_3 (ji20))
  case neg => rw [if_neg c24] at H; exact absurd H (by simp)
  rw [if_pos c24] at H
  have c24b0 := decide_eq_true c24
  clear c24
  by_cases c25 : (rd x6_3 (ji20)) < (l0.length : Int)
  case neg => rw [if_neg c25] at H; exact absurd H (by simp)
  rw [if_pos c25] at H
  have c25b0 := decide_eq_true c25
  clear c25
  have H' := Aside0.mk H
  clear H
  obtain ⟨Ao26, co26, eo26⟩ := Kd.R_slice HO_6.out
  subst eo26
  have p108 : 0 ≤ ((ji20) : Int) := of_decide_eq_true (by with_reducible assumption)
  have q108 : (ji20) < (x6_3.length : Int) := of_decide_eq_true (by with_reducible assumption)
  obtain ⟨ad108, e108, hx108_0⟩ := Kd.at_int (Kd.R_reads' HO_6.out).2.2 (ji20) p108 q108
  cases e108
  replace p108 := eq_true p108
  replace q108 := eq_true q108
  have q27 : ((ji20) : Int) ≤ ((x6_3.length : Int) : Int) := of_decide_eq_true (by with_reducible assumption)
  obtain ⟨i027, hi027, _, hsz27, _⟩ := info_parts info3
  have hcut27 := cut_to (P := Try.prog) 56 3 .i64 Try.underlying56 hi027 (some ad108) x6_3.length co26 (ji20) (of_decide_eq_true (by with_reducible assumption)) q27 (Kd.R_reads' HO_6.out).2.1
  have hr27 := Kd.R_take (m := ((ji20) : Int).toNat) HO_6.out (by omega)
  have hy27 : y109.length = ((ji20) : Int).toNat := (by rw [Ny109.out, List.length_take]; omega)
  rw [← Ny109.out] at hr27
  rw [← hy27] at hr27 hcut27
  clear hy27 hi027 hsz27 HO_6
  have HO111 := Aside0.mk hr27
  clear hr27
  replace q27 := eq_true q27
  have p112 : 0 ≤ ((rd x6_3 (ji20)) : Int) := of_decide_eq_true (by with_reducible assumption)
  have q112 : (rd x6_3 (ji20)) < (l0.length : Int) := of_decide_eq_true (by with_reducible assumption)
  obtain ⟨ad112, A112_0, c112_0, e112, hx112_0, hl112_0, hi112_0⟩ := at_L7 HR0.out (rd x6_3 (ji20)) p112 q112
  cases e112
  replace hx112_0 := (HB.out.cell (World.block_lt_of_cell? w _ hx112_0)).trans hx112_0
  have HR112_0 := Aside0.mk hi112_0
  have HC112_0 := Aside0.mk hl112_0
  clear hi112_0 hl112_0
  replace p112 := eq_true p112
  replace q112 := eq_true q112
  go_wp2
  go_loopg [6, 48] k3 (fun kq v6 v48 w' => ∃ (x5_4 : List Bool) (x6_4 : List Int) (x48_4 : Int), v48 = .int .i64 x48_4 ∧ Aside0 (comps_seen.l1 kq l0 x5_4 x6_4 (rd_L7 l0 (rd x6_3 (ji20))) ((rd_L7 l0 (rd x6_3 (ji20))).length : Int) x48_4 = some r) ∧ Aside0 (kq ≤ k3) ∧ Aside0 (Kd.R Kd.bool 4 w' w.heap.size (fun _ => True) v5 x5_4) ∧ Aside0 (Kd.R (Kd.int .i64) 3 w' w.heap.size (fun _ => True) v6 x6_4) ∧ Aside0 (Below w.heap.size w w'))
  case atStart => exact ⟨(x5_3), (y109), (0), (by first | rfl | (simp; done) | (simp [*]; done)), H', ⟨Nat.le_refl _⟩, ⟨by (with_reducible repeat (first | apply Kd.R_alloc | apply Kd.R_drewN | apply Kd.R_drew)); exact HO_5.out⟩, ⟨by (with_reducible repeat (first | apply Kd.R_alloc | apply Kd.R_drewN | apply Kd.R_drew)); exact HO111.out⟩, ⟨by repeat (first | (with_reducible first | exact HB.out | apply below_alloc | apply pw_below_drewN | apply below_drew1) | exact HB.out)⟩⟩
  clear H'
  try clear c1
  try clear p1
  try clear q1
  try clear hx1
  try clear c2
  try clear p2
  try clear q2
  try clear c3
  try clear c3b0
  try clear c3b1
  try clear c4
  try clear c4b0
  try clear c4b1
  try clear p6
  try clear c8
  try clear c8b0
  try clear c10
  try clear p10
  try clear q10
  try clear hx10
  try clear c11
  try clear p11
  try clear q11
  try clear hx11
  try clear c12
  try clear c12b0
  try clear c13
  try clear c13b0
  try clear p14
  try clear q14
  try clear hx14
  try clear hf14
  try clear c18
  try clear c18b0
  try clear c18b1
  try clear c18b2
  try clear c20
  try clear c21
  try clear c21b0
  try clear c22
  try clear c22b0
  try clear c23
  try clear c23b0
  try clear c23b1
  try clear c24
  try clear c24b0
  try clear c25
  try clear c25b0
  try clear q27
  try clear hx108_0
  try clear hx112_0
  try clear hx14_0
  try clear p1
  try clear p108
  try clear p112
  try clear p14
  try clear p2
  try clear q1
  try clear q108
  try clear q112
  try clear q14
  try clear q27
  obtain ⟨x5_4, x6_4, x48_4, rfl, HA, HK4, HO_5, HO_6, HB⟩ := hrel
  obtain _ | k4 := gk
  · exact absurd HA.out (by simp [comps_seen.l1])
  have H := HA.out
  clear HA
  simp only [comps_seen.l1] at H
  by_cases c28 : x48_4 < ((rd_L7 l0 (rd x6_3 (ji20))).length : Int)
  case neg =>
   rw [if_neg c28] at H
   have c28b0 := decide_eq_false c28
   clear c28
   have H' := Aside0.mk H
   clear H
   go_wp2
   go_step3
   (try simp only [Exit.jump])
   exact ⟨rfl, k4, by have := HK4.out; omega, x5_4, x6_4, _, _, _, _, _, _, _, _, _, _, _, _, _, _, _, _, _, _, _, _, _, _, _, _, _, _, _, _, _, _, _, _, _, _, _, _, _, _, _, _, _, _, _, _, _, _, _, _, _, _, _, _, _, _, _, _, _, _, _, _, _, _, _, rfl, H', ⟨by (with_reducible repeat (first | apply Kd.R_alloc | apply Kd.R_drewN | apply Kd.R_drew)); exact HO_5.out⟩, ⟨by (with_reducible repeat (first | apply Kd.R_alloc | apply Kd.R_drewN | apply Kd.R_drew)); exact HO_6.out⟩, ⟨by repeat (first | (with_reducible first | exact HB.out | apply below_alloc | apply pw_below_drewN | apply below_drew1) | exact HB.out)⟩⟩
  rw [if_pos c28] at H
  have c28b0 := decide_eq_true c28
  clear c28
  by_cases c29 : 0 ≤ x48_4
  case neg => rw [if_neg c29] at H; exact absurd H (by simp)
  rw [if_pos c29] at H
  have c29b0 := decide_eq_true c29
  clear c29
  by_cases c30 : x48_4 < ((rd_L7 l0 (rd x6_3 (ji20))).length : Int)
  case neg => rw [if_neg c30] at H; exact absurd H (by simp)
  rw [if_pos c30] at H
  have c30b0 := decide_eq_true c30
  clear c30
  by_cases c31 : 0 ≤ (rd (rd_L7 l0 (rd x6_3 (ji20))) x48_4)
  case neg => rw [if_neg c31] at H; exact absurd H (by simp)
  rw [if_pos c31] at H
  have c31b0 := decide_eq_true c31
  clear c31
  by_cases c32 : (rd (rd_L7 l0 (rd x6_3 (ji20))) x48_4) < (x5_4.length : Int)
  case neg => rw [if_neg c32] at H; exact absurd H (by simp)
  rw [if_pos c32] at H
  have c32b0 := decide_eq_true c32
  clear c32
  obtain ⟨bq33, hbq33⟩ : ∃ b_ : Bool, b_ = (rdOf false x5_4 (rd (rd_L7 l0 (rd x6_3 (ji20))) x48_4)) := ⟨_, rfl⟩
  replace H : (if (bq33 = true) then (comps_seen.l1 k4 l0 x5_4 x6_4 (rd_L7 l0 (rd x6_3 (ji20))) ((rd_L7 l0 (rd x6_3 (ji20))).length : Int) (wrap64 (x48_4 + 1))) else (if x6_4.length < 17592186044416 then (comps_seen.l1 k4 l0 (x5_4.set ((rd (rd_L7 l0 (rd x6_3 (ji20))) x48_4) : Int).toNat true) (x6_4 ++ [rd (rd_L7 l0 (rd x6_3 (ji20))) x48_4]) (rd_L7 l0 (rd x6_3 (ji20))) ((rd_L7 l0 (rd x6_3 (ji20))).length : Int) (wrap64 (x48_4 + 1))) else (none))) = some r := by rw [← hbq33] at H; exact H
  have Nbq33 := Aside0.mk hbq33
  clear hbq33
  by_cases c34 : (bq33 = true)
  case pos =>
   subst c34
   rw [if_pos rfl] at H
   have H' := Aside0.mk H
   clear H
   have p113 : 0 ≤ (x48_4 : Int) := of_decide_eq_true (by with_reducible assumption)
   have q113 : x48_4 < ((rd_L7 l0 (rd x6_3 (ji20))).length : Int) := of_decide_eq_true (by with_reducible assumption)
   obtain ⟨ad113, e113, hx113_0⟩ := Kd.at_int HR112_0.out x48_4 p113 q113
   cases e113
   replace hx113_0 := (HB.out.cell (World.block_lt_of_cell? w _ hx113_0)).trans hx113_0
   replace p113 := eq_true p113
   replace q113 := eq_true q113
   obtain ⟨Ao35, co35, eo35⟩ := Kd.R_slice HO_5.out
   subst eo35
   have p114 : 0 ≤ ((rd (rd_L7 l0 (rd x6_3 (ji20))) x48_4) : Int) := of_decide_eq_true (by with_reducible assumption)
   have q114 : (rd (rd_L7 l0 (rd x6_3 (ji20))) x48_4) < (x5_4.length : Int) := of_decide_eq_true (by with_reducible assumption)
   obtain ⟨ad114, e114, hx114_0⟩ := Kd.at_bool (Kd.R_reads' HO_5.out).2.2 (rd (rd_L7 l0 (rd x6_3 (ji20))) x48_4) p114 q114
   (try rw [← Nbq33.out] at hx114_0)
   cases e114
   replace p114 := eq_true p114
   replace q114 := eq_true q114
   go_wp2
   go_roundg k4
   case measure => have := HK4.out; omega
   case rel => exact ⟨(x5_4), (x6_4), (wrap64 (x48_4 + 1)), (by first | rfl | (simp; done) | (simp [*]; done)), H', ⟨by have := HK4.out; omega⟩, ⟨by (with_reducible repeat (first | apply Kd.R_alloc | apply Kd.R_drewN | apply Kd.R_drew)); exact HO_5.out⟩, ⟨by (with_reducible repeat (first | apply Kd.R_alloc | apply Kd.R_drewN | apply Kd.R_drew)); exact HO_6.out⟩, ⟨by repeat (first | (with_reducible first | exact HB.out | apply below_alloc | apply pw_below_drewN | apply below_drew1) | exact HB.out)⟩⟩
  replace c34 := Bool.eq_false_iff.mpr c34
  subst c34
  rw [if_neg (show ¬ (false = true) by decide)] at H
  obtain ⟨y115, hy115⟩ : ∃ y_ : List Bool, y_ = (x5_4.set ((rd (rd_L7 l0 (rd x6_3 (ji20))) x48_4) : Int).toNat true) := ⟨_, rfl⟩
  replace H : (if x6_4.length < 17592186044416 then (comps_seen.l1 k4 l0 y115 (x6_4 ++ [rd (rd_L7 l0 (rd x6_3 (ji20))) x48_4]) (rd_L7 l0 (rd x6_3 (ji20))) ((rd_L7 l0 (rd x6_3 (ji20))).length : Int) (wrap64 (x48_4 + 1))) else (none)) = some r := by first | (rw [hy115]; with_reducible exact H) | (have H2_ := (Option.bind_some _ _).symm.trans H; rw [hy115]; with_reducible exact H2_) | (have H2_ := (Option.bind_some _ _).symm.trans H; with_reducible exact H2_) | with_reducible exact H | (rw [hy115]; exact H) | exact H
  have Ny115 := Aside0.mk hy115
  clear hy115
  by_cases c37 : x6_4.length < 17592186044416
  case neg => rw [if_neg c37] at H; exact absurd H (by simp)
  rw [if_pos c37] at H
  have LMc37 := Aside0.mk c37
  clear c37
  obtain ⟨y116, hy116⟩ : ∃ y_ : List Int, y_ = (x6_4 ++ [rd (rd_L7 l0 (rd x6_3 (ji20))) x48_4]) := ⟨_, rfl⟩
  replace H : (comps_seen.l1 k4 l0 y115 y116 (rd_L7 l0 (rd x6_3 (ji20))) ((rd_L7 l0 (rd x6_3 (ji20))).length : Int) (wrap64 (x48_4 + 1))) = some r := by first | (rw [hy116]; with_reducible exact H) | (have H2_ := (Option.bind_some _ _).symm.trans H; rw [hy116]; with_reducible exact H2_) | (have H2_ := (Option.bind_some _ _).symm.trans H; with_reducible exact H2_) | with_reducible exact H | (rw [hy116]; exact H) | exact H
  have Ny116 := Aside0.mk hy116
  clear hy116
  have H' := Aside0.mk H
  clear H
  have p113 : 0 ≤ (x48_4 : Int) := of_decide_eq_true (by with_reducible assumption)
  have q113 : x48_4 < ((rd_L7 l0 (rd x6_3 (ji20))).length : Int) := of_decide_eq_true (by with_reducible assumption)
  obtain ⟨ad113, e113, hx113_0⟩ := Kd.at_int HR112_0.out x48_4 p113 q113
  cases e113
  replace hx113_0 := (HB.out.cell (World.block_lt_of_cell? w _ hx113_0)).trans hx113_0
  replace p113 := eq_true p113
  replace q113 := eq_true q113
  obtain ⟨Ao38, co38, eo38⟩ := Kd.R_slice HO_5.out
  subst eo38
  have p114 : 0 ≤ ((rd (rd_L7 l0 (rd x6_3 (ji20))) x48_4) : Int) := of_decide_eq_true (by with_reducible assumption)
  have q114 : (rd (rd_L7 l0 (rd x6_3 (ji20))) x48_4) < (x5_4.length : Int) := of_decide_eq_true (by with_reducible assumption)
  obtain ⟨ad114, e114, hx114_0⟩ := Kd.at_bool (Kd.R_reads' HO_5.out).2.2 (rd (rd_L7 l0 (rd x6_3 (ji20))) x48_4) p114 q114
  (try rw [← Nbq33.out] at hx114_0)
  cases e114
  replace p114 := eq_true p114
  replace q114 := eq_true q114
  have p36 : 0 ≤ ((rd (rd_L7 l0 (rd x6_3 (ji20))) x48_4) : Int) := of_decide_eq_true (by with_reducible assumption)
  have q36 : ((rd (rd_L7 l0 (rd x6_3 (ji20))) x48_4) : Int) < ((x5_4.length : Int) : Int) := of_decide_eq_true (by with_reducible assumption)
  obtain ⟨go36, co36, eo36, gb36, gl36, cl36, HG36⟩ := Kd.R_form HO_5.out (by omega)
  (first | cases eo36 | (injection eo36 with ea_ en_ ec_; (first | subst ea_ | (injection ea_ with ea_; subst ea_)); subst ec_; clear en_))
  have GB36 := Aside0.mk gb36
  have GG36 := Aside0.mk HG36
  clear gb36 gl36 HG36
  (first | simp only [add_plain] at hx114_0 | skip)
  obtain ⟨hx36_0, hf36_0⟩ := Kd.R_celln false HO_5.out ((rd (rd_L7 l0 (rd x6_3 (ji20))) x48_4) : Int) p36 q36
  replace p36 := eq_true p36
  replace q36 := eq_true q36
  have HP39 := Kd.R_putg HO_5.out ((rd (rd_L7 l0 (rd x6_3 (ji20))) x48_4) : Int) true
  go_wp2_with (first | ((with_reducible refine gate_store (t := 4) (p := 59) rfl ?_); refine store_event (t := 4) (p := 59) (v := ?vo_w40) (w1 := (wr.setCell ⟨go36, ((rd (rd_L7 l0 (rd x6_3 (ji20))) x48_4) : Int).toNat, none⟩ (.bool true))) ?hg ?ho ?hn ?hr ?_; (case ho => rfl); (case hg => rfl); (case hn => rfl); (case hr => first | (go_simp; done) | (go_simp; rfl)); intro w40 hw; have hg : wr.grownBy w40 (some go36) := (by rw [hw]; exact HP39.2); have hp_ : Kd.R Kd.bool 4 w40 w.heap.size (fun _ => True) (.slice (some ⟨go36, 0, none⟩) x5_4.length co38) y115 := (by rw [hw, Ny115.out]; exact HP39.1); clear HP39; have n0_ := Aside0.mk (hp_); have n1_ := Aside0.mk (Kd.R_over' (v := (.slice (some ⟨go36, 0, none⟩) x5_4.length co38)) (by (with_reducible repeat (first | apply Kd.R_alloc | apply Kd.R_drewN | apply Kd.R_drew)); exact HO_6.out) (Kd.R_typed HO_5.out) (by decide) hg); have n2_ := Aside0.mk ((by rw [hw]; exact below_set (HB.out) GB36.out : Below w.heap.size w w40)); clear HO_5; clear HO_6; clear HB; have HO_5 := n0_; have HO_6 := n1_; have HB := n2_; clear n0_ n1_ n2_; clear hg hw hp_) | ((with_reducible refine gate_builtin (b := .append) (xs := #[.tmp 60, .tmp 62]) rfl ?_); (try (refine gate_guard (by rfl) ?_; dsimp only)); at_builtin; refine Kd.R_append (Kd.int .i64) (w0 := w) w.heap.size rfl (.tmp 60) (.tmp 62) 56 3 (.int .i64 0) 8 rfl Try.underlying56 info3 rfl (by decide) (by omega) u6 x6_4 (rd (rd_L7 l0 (rd x6_3 (ji20))) x48_4) [.int .i64 (rd (rd_L7 l0 (rd x6_3 (ji20))) x48_4)] (fun _ => True) (fun _ => False) rfl rfl ?aP (fun _ hk => hk.elim) ?aF ?aO ?aB ?aS ?aL ?_; (case aP => exact rfl); (case aB => exact (by repeat (first | (with_reducible first | exact HB.out | apply below_alloc | apply pw_below_drewN | apply below_drew1) | exact HB.out))); (case aF => exact (fun _ _ => trivial)); (case aO => exact (by (with_reducible repeat (first | apply Kd.R_alloc | apply Kd.R_drewN | apply Kd.R_drew)); exact HO_6.out)); (case aS => exact (below_size (by repeat (first | (with_reducible first | exact HB.out | apply below_alloc | apply pw_below_drewN | apply below_drew1) | exact HB.out)))); (case aL => have := LMc37.out; omega); intro v117 w41 ho hb hg hat; rw [← Ny116.out] at ho; have n0_ := Aside0.mk (Kd.R_over' (by (with_reducible repeat (first | apply Kd.R_alloc | apply Kd.R_drewN | apply Kd.R_drew)); exact HO_5.out) (Kd.R_typed (by (with_reducible repeat (first | apply Kd.R_alloc | apply Kd.R_drewN | apply Kd.R_drew)); exact HO_6.out)) (by decide) hg); have n1_ := Aside0.mk (hb); have n2_ := Aside0.mk (ho); clear HO_5; clear HB; clear HO_6; have HO_5 := n0_; have HB := n1_; have HO118 := n2_; clear n0_ n1_ n2_; clear ho hb hg hat))
  go_roundg k4
  case measure => have := HK4.out; omega
  case rel => exact ⟨(y115), (y116), (wrap64 (x48_4 + 1)), (by first | rfl | (simp; done) | (simp [*]; done)), H', ⟨by have := HK4.out; omega⟩, ⟨by (with_reducible repeat (first | apply Kd.R_alloc | apply Kd.R_drewN | apply Kd.R_drew)); exact HO_5.out⟩, ⟨by (with_reducible repeat (first | apply Kd.R_alloc | apply Kd.R_drewN | apply Kd.R_drew)); exact HO118.out⟩, ⟨by repeat (first | (with_reducible first | exact HB.out | apply below_alloc | apply pw_below_drewN | apply below_drew1) | exact HB.out)⟩⟩
 case first =>
  intro hround
  have HRD := Aside0.mk hround
  clear hround
  go_upto_region 3 with (first | ((with_reducible refine gate_dst (N := 12) rfl ?_); (try (refine gate_guard (by rfl) ?_; dsimp only)); refine Kd.R_make Kd.bool _ 4 rfl (N := 12) rfl 77 _ _ rfl (l0.length : Int) rfl rfl Try.underlying77 (.bool false) 1 info4 rfl (by decide) (by omega) false (ok := fun _ => True) (okp := fun _ => True) rfl (fun _ hk => hk) trivial (of_decide_eq_true (by with_reducible assumption)) (Nat.le_trans (Nat.mul_le_mul_right _ (of_decide_eq_true (by with_reducible assumption) : (l0.length : Int).toNat ≤ 281474976710656)) (by omega)) (Below.refl _ _) (Nat.le_refl _) ?_; intro v102 w6 ho7 hb hg_ hnew_; clear hg_ hnew_; (first | rw [← Ny101.out] at ho7 | (simp only [Int.reduceToNat] at ho7; rw [← Ny101.out] at ho7)); have n0_ := Aside0.mk (Kd.R_lower ho7 (below_size (by repeat (first | (with_reducible first | exact HB.out | apply below_alloc | apply pw_below_drewN | apply below_drew1) | exact HB.out)))); have n1_ := Aside0.mk (below_step (by repeat (first | (with_reducible first | exact HB.out | apply below_alloc | apply pw_below_drewN | apply below_drew1) | exact HB.out)) hb); clear HB; have HO103 := n0_; have HB := n1_; clear n0_ n1_; clear hb ho7))
  (try simp only [Act.put, List.setIfInBounds_toArray, List.set_cons_zero, List.set_cons_succ])
  go_cut [20] (fun v20 wc => ∃ (kq : Nat) (x20_4 : Bool), v20 = .bool x20_4 ∧ Aside0 (comps_seen.j0 kq l0 a1 y101 ([] : List Int) x20_4 = some r) ∧ Aside0 (kq ≤ k) ∧ Aside0 (Kd.R Kd.bool 4 wc w.heap.size (fun _ => True) v102 y101) ∧ Aside0 (Kd.R (Kd.int .i64) 3 wc w.heap.size (fun _ => True) (.slice none 0 0) ([] : List Int)) ∧ Aside0 (Below w.heap.size w wc))
  case first =>
   have H := HC5.out
   clear HC5
   by_cases c8 : a1 ≥ 0
   case neg =>
    rw [if_neg c8] at H
    have c8b0 := decide_eq_false c8
    clear c8
    (first | rw [c8b0] | (simp only [i64_w, i32_w]; rw [c8b0]) | skip)
    have H' := Aside0.mk H
    clear H
    go_wp2
    go_meet
    case rel => exact ⟨_, (false), (by first | rfl | (simp; done) | (simp [*]; done)), H', ⟨by first | omega | exact Nat.le_refl _⟩, ⟨by (with_reducible repeat (first | apply Kd.R_alloc | apply Kd.R_drewN | apply Kd.R_drew)); exact HO103.out⟩, ⟨by first | exact Kd.R_nil _ _ _ _ _ | exact Kd.N_nil _ _ _ _ _ | exact Kd.V_nil _ _ _ _ _ | exact Kd.Q_nil _ _ _ _ _ | exact Kd.S_nil _ _ _ _ _⟩, ⟨by repeat (first | (with_reducible first | exact HB.out | apply below_alloc | apply pw_below_drewN | apply below_drew1) | exact HB.out)⟩⟩
   rw [if_pos c8] at H
   have c8b0 := decide_eq_true c8
   clear c8
   (first | rw [c8b0] | (simp only [i64_w, i32_w]; rw [c8b0]) | skip)
   have H' := Aside0.mk H
   clear H
   go_wp2
   go_meet
   case rel => exact ⟨_, (decide (a1 < (l0.length : Int))), (by first | rfl | (simp; done) | (simp [*]; done)), H', ⟨by first | omega | exact Nat.le_refl _⟩, ⟨by (with_reducible repeat (first | apply Kd.R_alloc | apply Kd.R_drewN | apply Kd.R_drew)); exact HO103.out⟩, ⟨by first | exact Kd.R_nil _ _ _ _ _ | exact Kd.N_nil _ _ _ _ _ | exact Kd.V_nil _ _ _ _ _ | exact Kd.Q_nil _ _ _ _ _ | exact Kd.S_nil _ _ _ _ _⟩, ⟨by repeat (first | (with_reducible first | exact HB.out | apply below_alloc | apply pw_below_drewN | apply below_drew1) | exact HB.out)⟩⟩
  clear HC5
  try clear c2
  try clear p2
  try clear c3
  try clear c3b0
  try clear c3b1
  try clear c4
  try clear c4b0
  try clear c4b1
  try clear c8
  try clear c8b0
  obtain ⟨kq, x20_4, rfl, HA, HJ4, HO_5, HO_6, HB⟩ := hcut
  obtain _ | kj4 := kq
  · exact absurd HA.out (by simp [comps_seen.j0])
  have H := HA.out
  clear HA
  simp only [comps_seen.j0] at H
  have HC9 := Aside0.mk H
  clear H
  go_upto_if 20 with (fail)
  go_cut [6] (fun v6 wc => ∃ (kq : Nat) (x5_8 : List Bool) (x6_8 : List Int), Aside0 (comps_seen.j1 kq l0 x5_8 x6_8 = some r) ∧ Aside0 (kq ≤ kj4) ∧ Aside0 (Kd.R Kd.bool 4 wc w.heap.size (fun _ => True) v102 x5_8) ∧ Aside0 (Kd.R (Kd.int .i64) 3 wc w.heap.size (fun _ => True) v6 x6_8) ∧ Aside0 (Below w.heap.size w wc))
  case first =>
   have H := HC9.out
   clear HC9
   by_cases c10 : x20_4 = true
   case neg =>
    replace c10 := Bool.eq_false_iff.mpr c10
    subst c10
    rw [if_neg (show ¬ (false = true) by decide)] at H
    have H' := Aside0.mk H
    clear H
    go_wp2
    go_meet
    case rel => exact ⟨_, (y101), (([] : List Int)), H', ⟨by have := HJ4.out; first | omega | exact Nat.le_refl _⟩, ⟨by (with_reducible repeat (first | apply Kd.R_alloc | apply Kd.R_drewN | apply Kd.R_drew)); exact HO_5.out⟩, ⟨by (with_reducible repeat (first | apply Kd.R_alloc | apply Kd.R_drewN | apply Kd.R_drew)); exact HO_6.out⟩, ⟨by repeat (first | (with_reducible first | exact HB.out | apply below_alloc | apply pw_below_drewN | apply below_drew1) | exact HB.out)⟩⟩
   subst c10
   rw [if_pos rfl] at H
   by_cases c11 : ([] : List Int).length < 17592186044416
   case neg => rw [if_neg c11] at H; exact absurd H (by simp)
   rw [if_pos c11] at H
   have LMc11 := Aside0.mk c11
   clear c11
   obtain ⟨y104, hy104⟩ : ∃ y_ : List Int, y_ = (([] : List Int) ++ [a1]) := ⟨_, rfl⟩
   replace H : (if 0 ≤ a1 then (if a1 < (y101.length : Int) then (comps_seen.j1 kj4 l0 (y101.set (a1 : Int).toNat true) y104) else (none)) else (none)) = some r := by first | (rw [hy104]; with_reducible exact H) | (have H2_ := (Option.bind_some _ _).symm.trans H; rw [hy104]; with_reducible exact H2_) | (have H2_ := (Option.bind_some _ _).symm.trans H; with_reducible exact H2_) | with_reducible exact H | (rw [hy104]; exact H) | exact H
   have Ny104 := Aside0.mk hy104
   clear hy104
   by_cases c12 : 0 ≤ a1
   case neg => rw [if_neg c12] at H; exact absurd H (by simp)
   rw [if_pos c12] at H
   have c12b0 := decide_eq_true c12
   clear c12
   (first | rw [c12b0] | (simp only [i64_w, i32_w]; rw [c12b0]) | skip)
   by_cases c13 : a1 < (y101.length : Int)
   case neg => rw [if_neg c13] at H; exact absurd H (by simp)
   rw [if_pos c13] at H
   have c13b0 := decide_eq_true c13
   clear c13
   obtain ⟨y107, hy107⟩ : ∃ y_ : List Bool, y_ = (y101.set (a1 : Int).toNat true) := ⟨_, rfl⟩
   replace H : (comps_seen.j1 kj4 l0 y107 y104) = some r := by first | (rw [hy107]; with_reducible exact H) | (have H2_ := (Option.bind_some _ _).symm.trans H; rw [hy107]; with_reducible exact H2_) | (have H2_ := (Option.bind_some _ _).symm.trans H; with_reducible exact H2_) | with_reducible exact H | (rw [hy107]; exact H) | exact H
   have Ny107 := Aside0.mk hy107
   clear hy107
   have H' := Aside0.mk H
   clear H
   go_wp2_with (first | ((with_reducible refine gate_builtin (b := .append) (xs := #[.tmp 21, .tmp 23]) rfl ?_); (try (refine gate_guard (by rfl) ?_; dsimp only)); at_builtin; refine Kd.R_append (Kd.int .i64) (w0 := w) w.heap.size rfl (.tmp 21) (.tmp 23) 56 3 (.int .i64 0) 8 rfl Try.underlying56 info3 rfl (by decide) (by omega) (.slice none 0 0) ([] : List Int) a1 [.int .i64 a1] (fun _ => True) (fun _ => False) rfl rfl ?aP (fun _ hk => hk.elim) ?aF ?aO ?aB ?aS ?aL ?_; (case aP => exact rfl); (case aB => exact (by repeat (first | (with_reducible first | exact HB.out | apply below_alloc | apply pw_below_drewN | apply below_drew1) | exact HB.out))); (case aF => exact (fun _ _ => trivial)); (case aO => exact (by (with_reducible repeat (first | apply Kd.R_alloc | apply Kd.R_drewN | apply Kd.R_drew)); exact HO_6.out)); (case aS => exact (below_size (by repeat (first | (with_reducible first | exact HB.out | apply below_alloc | apply pw_below_drewN | apply below_drew1) | exact HB.out)))); (case aL => have := LMc11.out; omega); intro v105 w15 ho hb hg hat; rw [← Ny104.out] at ho; have n0_ := Aside0.mk (Kd.R_over' (by (with_reducible repeat (first | apply Kd.R_alloc | apply Kd.R_drewN | apply Kd.R_drew)); exact HO_5.out) (Kd.R_typed (by (with_reducible repeat (first | apply Kd.R_alloc | apply Kd.R_drewN | apply Kd.R_drew)); exact HO_6.out)) (by decide) hg); have n1_ := Aside0.mk (hb); have n2_ := Aside0.mk (ho); clear HO_5; clear HB; clear HO_6; have HO_5 := n0_; have HB := n1_; have HO106 := n2_; clear n0_ n1_ n2_; clear ho hb hg hat; have p14 : 0 ≤ (a1 : Int) := of_decide_eq_true (by with_reducible assumption); have q14 : (a1 : Int) < ((y101.length : Int) : Int) := of_decide_eq_true (by with_reducible assumption); obtain ⟨go14, co14, eo14, gb14, gl14, cl14, HG14⟩ := Kd.R_form HO_5.out (by omega); (first | cases eo14 | (injection eo14 with ea_ en_ ec_; (first | subst ea_ | (injection ea_ with ea_; subst ea_)); subst ec_; clear en_)); have GB14 := Aside0.mk gb14; have GG14 := Aside0.mk HG14; clear gb14 gl14 HG14; obtain ⟨hx14_0, hf14_0⟩ := Kd.R_celln false HO_5.out (a1 : Int) p14 q14; replace p14 := eq_true p14; replace q14 := eq_true q14; obtain ⟨hy16_, hz16_⟩ := Kd.R_celln false HO_5.out (a1 : Int) (of_decide_eq_true (by with_reducible assumption)) (of_decide_eq_true (by with_reducible assumption)); have HP16 := Kd.R_putg HO_5.out (a1 : Int) true) | ((with_reducible refine gate_store (t := 4) (p := 27) rfl ?_); refine store_event (t := 4) (p := 27) (v := ?vo_w17) (w1 := (w15.setCell ⟨go14, (a1 : Int).toNat, none⟩ (.bool true))) ?hg ?ho ?hn ?hr ?_; (case ho => rfl); (case hg => rfl); (case hn => rfl); (case hr => first | (go_simp; done) | (go_simp; rfl)); intro w17 hw; have hg : w15.grownBy w17 (some go14) := (by rw [hw]; exact HP16.2); have hp_ : Kd.R Kd.bool 4 w17 w.heap.size (fun _ => True) (.slice (some ⟨go14, 0, none⟩) y101.length co14) y107 := (by rw [hw, Ny107.out]; exact HP16.1); clear HP16; have n0_ := Aside0.mk (hp_); have n1_ := Aside0.mk (Kd.R_over' (v := (.slice (some ⟨go14, 0, none⟩) y101.length co14)) (by (with_reducible repeat (first | apply Kd.R_alloc | apply Kd.R_drewN | apply Kd.R_drew)); exact HO106.out) (Kd.R_typed HO_5.out) (by decide) hg); have n2_ := Aside0.mk ((by rw [hw]; exact below_set (HB.out) GB14.out : Below w.heap.size w w17)); clear HO_5; clear HO106; clear HB; have HO_5 := n0_; have HO106 := n1_; have HB := n2_; clear n0_ n1_ n2_; clear hg hw hp_))
   go_meet
   case rel => exact ⟨_, (y107), (y104), H', ⟨by have := HJ4.out; first | omega | exact Nat.le_refl _⟩, ⟨by (with_reducible repeat (first | apply Kd.R_alloc | apply Kd.R_drewN | apply Kd.R_drew)); exact HO_5.out⟩, ⟨by (with_reducible repeat (first | apply Kd.R_alloc | apply Kd.R_drewN | apply Kd.R_drew)); exact HO106.out⟩, ⟨by repeat (first | (with_reducible first | exact HB.out | apply below_alloc | apply pw_below_drewN | apply below_drew1) | exact HB.out)⟩⟩
  clear HC9
  try clear c1
  try clear p1
  try clear q1
  try clear hx1
  try clear c2
  try clear p2
  try clear c3
  try clear c3b0
  try clear c3b1
  try clear c4
  try clear c4b0
  try clear c4b1
  try clear c8
  try clear c8b0
  try clear c10
  try clear c11
  try clear c12
  try clear c12b0
  try clear c13
  try clear c13b0
  try clear p14
  try clear q14
  try clear hx14
  try clear hf14
  try clear hx14_0
  try clear p14
  try clear p2
  try clear q14
  obtain ⟨kq, x5_8, x6_8, HA, HJ8, HO_5, HO_6, HB⟩ := hcut
  obtain _ | kj8 := kq
  · exact absurd HA.out (by simp [comps_seen.j1])
  have H := HA.out
  clear HA
  simp only [comps_seen.j1] at H
  have H' := Aside0.mk H
  clear H
  go_wp2
  go_step3
  go_step
  go_step
  exact HRD.out kj8 _ _ ⟨x5_8, x6_8, _, _, _, _, _, _, _, _, _, _, _, _, _, _, _, _, _, _, _, _, _, _, _, _, _, _, _, _, _, _, _, _, _, _, _, _, _, _, _, _, _, _, _, _, _, _, _, _, _, _, _, _, _, _, _, _, _, _, _, _, _, _, _, rfl, H', ⟨by (with_reducible repeat (first | apply Kd.R_alloc | apply Kd.R_drewN | apply Kd.R_drew)); exact HO_5.out⟩, ⟨by (with_reducible repeat (first | apply Kd.R_alloc | apply Kd.R_drewN | apply Kd.R_drew)); exact HO_6.out⟩, ⟨by repeat (first | (with_reducible first | exact HB.out | apply below_alloc | apply pw_below_drewN | apply below_drew1) | exact HB.out)⟩⟩
end Go.Proofs.Ytfkilcegdajdcaa.PZ
