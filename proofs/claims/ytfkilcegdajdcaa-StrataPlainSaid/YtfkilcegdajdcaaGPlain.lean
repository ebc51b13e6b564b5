
/- antecedentlaw13.StrataPlain: the walk (the program without Fails, Fold and Let is made rule by rule; both are told to strata.Strata). -/
import Derived.Test.YtfkilcegdajdcaaPZx5
import Derived.Test.YtfkilcegdajdcaaPZx8
import Derived.Test.YtfkilcegdajdcaaGAwake
import Derived.Test.YtfkilcegdajdcaaGRaw
namespace Go.Proofs.Ytfkilcegdajdcaa.PZ
open Go.RowKit Go.Proofs.YtfkilcegdajdcaaW.PrintWords Go.Proofs.YtfkilcegdajdcaaW.PrintLast Go.Proofs.YtfkilcegdajdcaaW.PrintMore
set_option linter.unusedVariables false
set_option linter.unusedSimpArgs false
def plainL (x : S46) : S46 := if x.f0 = 2 then { x with f0 := 1 } else x
def plainB (b : List S46) : List S46 := (b.map plainL).filter fun x => decide (x.f0 ≠ 4)
def plainR (r : S39) : S39 := ⟨r.f0, 0, plainB r.f2⟩
def antecedentlaw13_StrataPlain.f (k : Nat) (l0 : List S39) (a : ByteArray) (l2 : List S43) : Option Bool :=
  (antecedentlaw13_awake.f k).bind fun t => if t = true then (antecedentlaw13_few.f k l0 a l2).bind fun b => if b = true then
    (if (l0.length ≤ 100000 ∧ ∀ r ∈ l0, r.f2.length ≤ 100000) then (strata_Strata.f k l0 a l2).bind fun p => (strata_Strata.f k (l0.map plainR) a l2).bind fun q =>
      if q.2 = 0 then (if p.2 = 0 then antecedentref13_Same.f k p.1 q.1 else some true) else some false else none) else some true else none
theorem box_at {w : World} {g : Nat} {t : TypeId} {c : Array Value} (h : w.heap[g]? = some (.cells c t (0, 0))) (off : Nat) (c' : List Value) (hc : c.toList.drop off = c') : ∀ j u, c'[j]? = some u → w.cell? ((⟨g, off, none⟩ : Addr).add j) = some u := by
  intro j u hj
  have hadd : (⟨g, off, none⟩ : Addr).add j = ⟨g, off + j, none⟩ := by unfold Addr.add; split <;> simp_all
  rw [hadd, cell_of_row w g (off + j) c t (0, 0) h, ← Array.getElem?_toList]
  rw [← hc, List.getElem?_drop] at hj
  exact hj
theorem size27 : (Try.prog.info? 27).map (·.size) = some 3 := by kernel_rfl
theorem size39 : (Try.prog.info? 39).map (·.size) = some 4 := by kernel_rfl
theorem agg25 {w : World} : (isAgg 25).run Try.prog w = .ok true w := by first | exact Try.isAgg25 _ | kernel_rfl
theorem sz25 {w : World} : (sizeOf 25).run Try.prog w = .ok 2 w := by first | exact Try.sizeOf25 _ | kernel_rfl
theorem agg39 {w : World} : (isAgg 39).run Try.prog w = .ok true w := by first | exact Try.isAgg39 _ | kernel_rfl
theorem sz39 {w : World} : (sizeOf 39).run Try.prog w = .ok 4 w := by first | exact Try.sizeOf39 _ | kernel_rfl
theorem agg27 {w : World} : (isAgg 27).run Try.prog w = .ok true w := by first | exact Try.isAgg27 _ | kernel_rfl
theorem sz27 {w : World} : (sizeOf 27).run Try.prog w = .ok 3 w := by first | exact Try.sizeOf27 _ | kernel_rfl
theorem build39 {o : Oper} {ev : Operand → Value} {W : World} {p : Operand} {a b c d : Value} (ho : o.op = .buildSlice 22 1 #[(0, p)]) (hp : ev p = .agg [a, b, c, d].toArray) : (execOp ev o).run Try.prog W = .ok (.value (.slice (some ⟨W.heap.size, 0, none⟩) 1 1)) (W.alloc (.cells [a, b, c, d].toArray 39 (0, 0))) := by
  have hu22 := Try.underlying22
  unfold execOp
  rw [ho]
  simp only [List.map_toArray, List.map_cons, List.map_nil, hp]
  go_simp
theorem list17 : ∀ {c : List Value}, c.length = 17 → ∃ v0 v1 v2 v3 v4 v5 v6 v7 v8 v9 va vb vc vd ve vf vg : Value, c = [v0, v1, v2, v3, v4, v5, v6, v7, v8, v9, va, vb, vc, vd, ve, vf, vg]
  | [v0, v1, v2, v3, v4, v5, v6, v7, v8, v9, va, vb, vc, vd, ve, vf, vg], _ => ⟨v0, v1, v2, v3, v4, v5, v6, v7, v8, v9, va, vb, vc, vd, ve, vf, vg, rfl⟩
set_option maxRecDepth 100000 in
theorem build46 {o : Oper} {ev : Operand → Value} {W : World} {c : List Value} {p : Operand} (ho : o.op = .buildSlice 37 1 #[(0, p)]) (hp : ev p = .agg c.toArray) (hl : c.length = 17) : (execOp ev o).run Try.prog W = .ok (.value (.slice (some ⟨W.heap.size, 0, none⟩) 1 1)) (W.alloc (.cells c.toArray 46 (0, 0))) := by
  obtain ⟨v0, v1, v2, v3, v4, v5, v6, v7, v8, v9, va, vb, vc, vd, ve, vf, vg, rfl⟩ := list17 hl
  have hu37 := Try.underlying37
  unfold execOp
  rw [ho]
  simp only [List.map_toArray, List.map_cons, List.map_nil, hp]
  go_simp
theorem plainB_take {b : List S46} {m : Nat} (h : m < b.length) : plainB (b.take (m + 1)) = plainB (b.take m) ++ (if (plainL b[m]).f0 ≠ 4 then [plainL b[m]] else []) := by
  unfold plainB
  rw [List.take_succ_eq_append_getElem h, List.map_append, List.filter_append]
  by_cases h4 : (plainL b[m]).f0 = 4
  · simp [h4]
  · simp [h4]
theorem plainB_len (b : List S46) (m : Nat) : (plainB (b.take m)).length ≤ m := by
  have h1 := List.length_filter_le (fun x : S46 => decide (x.f0 ≠ 4)) ((b.take m).map plainL)
  rw [List.length_map, List.length_take] at h1
  unfold plainB
  omega
theorem plain_cells {w : World} {y : S46} {c : List Value} (h : k46.K w y c) : c.length = 17 ∧ (∀ u ∈ c, u.oneCell' = true) ∧ c[0]? = some (.int .i64 y.f0) ∧ (∀ z : Int, k46.K w { y with f0 := z } (c.set 0 (.int .i64 z))) := by
  have h1 := k46.K_one h
  obtain ⟨A2, c2, A16, c16, rfl, q1, q2, q3, q4⟩ := k46_open h
  exact ⟨rfl, h1, rfl, fun z => k46_mk w { y with f0 := z } q1 q2 q3 q4⟩
set_option maxHeartbeats 8000000 in
set_option maxRecDepth 100000 in
theorem antecedentlaw13_StrataPlain.calls (k : Nat) (A0 : Option Addr) (c0 : Nat) (l0 : List S39) (a : ByteArray) (A2 : Option Addr) (c2 : Nat) (l2 : List S43) (r : Bool) (w : World) (hr0 : Kd.C k39 w A0 l0.length l0) (hc0 : l0.length ≤ c0) (hr2 : Kd.C k43 w A2 l2.length l2) (hc2 : l2.length ≤ c2)
    (h : antecedentlaw13_StrataPlain.f k l0 a l2 = some r) :
    Calls Try.prog 6 #[.agg #[.slice A0 l0.length c0, .string a, .slice A2 l2.length c2]] w fun e w' => e = .returned (.bool r) ∧ Below w.heap.size w w' := by
  have hu27 := Try.underlying27
  have hu39 := Try.underlying39
  have hu46 := Try.underlying46
  have HR0 := Aside0.mk hr0
  have HC0 := Aside0.mk hc0
  have HR2 := Aside0.mk hr2
  have HC2 := Aside0.mk hc2
  have HB := Aside0.mk (Below.refl w.heap.size w)
  clear hr0 hc0 hr2 hc2
  unfold antecedentlaw13_StrataPlain.f at h
  obtain ⟨t, hA, h⟩ := Option.bind_eq_some_iff.1 h
  by_cases ht : t = true
  case neg => rw [if_neg ht] at h; cases h
  subst ht
  rw [if_pos rfl] at h
  obtain ⟨b, hF, h⟩ := Option.bind_eq_some_iff.1 h
  have AA := Aside0.mk hA
  have AF := Aside0.mk hF
  clear hA hF
  by_cases hb : b = true
  case neg =>
    rw [if_neg hb] at h
    obtain rfl := Option.some.inj h
    obtain rfl : b = false := by simpa using hb
    clear hb h
    go_enter Try.func6, Try.ntmps6
    go_wp2_with (first
      | ((with_reducible refine gate_dst (N := 1) rfl ?_); refine box_event ?hg (N := 1) ?hd (cs := #[.slice A0 l0.length c0, .string a, .slice A2 l2.length c2]) (t := 27) ?hr ?_; (case hd => rfl); (case hg => rfl); (case hr => first | (go_simp; done) | (go_simp; rfl)); intro gp hg w2 hbox hb; have n0_ := Aside0.mk (below_step HB.out hb); have n1_ := Aside0.mk hbox; clear HB; have HB := n0_; have BP := n1_; clear n0_ n1_ hb hg hbox)
      | (go_at_call 8; (with_reducible refine (antecedentlaw13_awake.calls k true _ AA.out).mono ?_); rintro e w3 ⟨rfl, hb⟩; have n0_ := Aside0.mk (below_step HB.out hb); have n1_ := Aside0.mk (blk_below BP.out hb); clear HB BP hb; have HB := n0_; have BP := n1_; clear n0_ n1_; have hz0 := (blk_cell BP.out 0).trans rfl; have hz1 := (blk_cell BP.out 1).trans rfl; have hz2 := (blk_cell BP.out 2).trans rfl; have hf0 := blk_frozen BP.out 0; have hf1 := blk_frozen BP.out 1; have hf2 := blk_frozen BP.out 2)
      | (go_at_call 9; (with_reducible refine (antecedentlaw13_few.calls k _ _ l0 a _ _ l2 false _ (Kd.C_below HR0.out HB.out) HC0.out (Kd.C_below HR2.out HB.out) HC2.out AF.out).mono ?_); rintro e w4 ⟨rfl, hb⟩; have n0_ := Aside0.mk (below_step HB.out hb); have n1_ := Aside0.mk (blk_below BP.out hb); clear HB BP hb; have HB := n0_; have BP := n1_; clear n0_ n1_))
    go_wp2
    repeat (go_quiet (fail); try go_wp2)
    go_ret
    exact ⟨rfl, HB.out⟩
  subst hb
  rw [if_pos rfl] at h
  by_cases hg : l0.length ≤ 100000 ∧ ∀ r ∈ l0, r.f2.length ≤ 100000
  case neg => rw [if_neg hg] at h; cases h
  rw [if_pos hg] at h
  obtain ⟨p, hP, h⟩ := Option.bind_eq_some_iff.1 h
  obtain ⟨q, hQ, h⟩ := Option.bind_eq_some_iff.1 h
  have AP := Aside0.mk hP
  have AQ := Aside0.mk hQ
  have HG := Aside0.mk hg
  have HH := Aside0.mk h
  clear hP hQ hg h
  go_enter Try.func6, Try.ntmps6
  go_wp2_with (first
    | ((with_reducible refine gate_dst (N := 1) rfl ?_); refine box_event ?hg (N := 1) ?hd (cs := #[.slice A0 l0.length c0, .string a, .slice A2 l2.length c2]) (t := 27) ?hr ?_; (case hd => rfl); (case hg => rfl); (case hr => first | (go_simp; done) | (go_simp; rfl)); intro gp hg w2 hbox hb; have n0_ := Aside0.mk (below_step HB.out hb); have n1_ := Aside0.mk hbox; have GP : Aside0 (w.heap.size ≤ gp) := ⟨by rw [hg]; exact HB.out.size⟩; clear HB; have HB := n0_; have BP := n1_; clear n0_ n1_ hb hg hbox)
    | (go_at_call 8; (with_reducible refine (antecedentlaw13_awake.calls k true _ AA.out).mono ?_); rintro e w3 ⟨rfl, hb⟩; have n0_ := Aside0.mk (below_step HB.out hb); have n1_ := Aside0.mk (blk_below BP.out hb); clear HB BP hb; have HB := n0_; have BP := n1_; clear n0_ n1_; have hz0 := (blk_cell BP.out 0).trans rfl; have hz1 := (blk_cell BP.out 1).trans rfl; have hz2 := (blk_cell BP.out 2).trans rfl; have hf0 := blk_frozen BP.out 0; have hf1 := blk_frozen BP.out 1; have hf2 := blk_frozen BP.out 2)
    | (go_at_call 9; (with_reducible refine (antecedentlaw13_few.calls k _ _ l0 a _ _ l2 true _ (Kd.C_below HR0.out HB.out) HC0.out (Kd.C_below HR2.out HB.out) HC2.out AF.out).mono ?_); rintro e w4 ⟨rfl, hb⟩; have n0_ := Aside0.mk (below_step HB.out hb); have n1_ := Aside0.mk (blk_below BP.out hb); clear HB BP hb hz0 hz1 hz2 hf0 hf1 hf2; have HB := n0_; have BP := n1_; clear n0_ n1_; have hz0 := (blk_cell BP.out 0).trans rfl; have hf0 := blk_frozen BP.out 0)
    | ((with_reducible refine gate_dst (N := 21) rfl ?_); refine Kd.event_run rfl (load_cells (c := [.string a, .slice A2 l2.length c2]) rfl rfl agg25 sz25 (box_at BP.out 1 _ rfl)) ?_)
    | ((with_reducible refine gate_dst (N := 3) rfl ?_); refine box_event ?hg (N := 3) ?hd (cs := #[.slice none 0 0, .string ⟨#[]⟩, .slice none 0 0]) (t := 27) ?hr ?_; (case hd => rfl); (case hg => rfl); (case hr => first | (go_simp; done) | (go_simp; rfl)); intro gq hg w5 hbox hb; have n0_ := Aside0.mk (below_step HB.out hb); have n1_ := Aside0.mk hbox; have n2_ := Aside0.mk (blk_below BP.out hb); have GQ : Aside0 (w.heap.size ≤ gq) := ⟨by rw [hg]; exact HB.out.size⟩; have PQ : Aside0 (gp < gq) := ⟨by rw [hg]; exact blk_lt BP.out⟩; clear HB BP hz0 hf0; have HB := n0_; have BQ := n1_; have BP := n2_; clear n0_ n1_ n2_ hb hg hbox)
    | ((with_reducible refine gate_store (t := 27) (p := 3) rfl ?_); refine store_event (t := 27) (p := 3) (v := ?vo_) (w1 := w5.setRow gq #[.slice none 0 0, .string a, .slice A2 l2.length c2]) ?hg ?ho ?hn ?hr ?_; (case ho => rfl); (case hg => rfl); (case hn => rfl); (case hr => exact store_row rfl rfl rfl BQ.out size27 rfl (by simp [Value.oneCell'])); intro w6 hw; have n0_ : Aside0 (w6.heap[gq]? = some (.cells #[.slice none 0 0, .string a, .slice A2 l2.length c2] 27 (0, 0))) := ⟨by rw [hw]; exact set_row_at BQ.out⟩; have n1_ : Aside0 (Below w.heap.size w w6) := ⟨by rw [hw]; exact set_row_below _ HB.out GQ.out⟩; have n2_ : Aside0 (w6.heap[gp]? = some (.cells #[.slice A0 l0.length c0, .string a, .slice A2 l2.length c2] 27 (0, 0))) := ⟨by rw [hw]; exact (setRow_other w5 gq gp _ (by have := PQ.out; omega)).trans BP.out⟩; clear hw; clear BQ HB BP; have BQ := n0_; have HB := n1_; have BP := n2_; clear n0_ n1_ n2_; have hz0 := (blk_cell BP.out 0).trans rfl; have hf0 := blk_frozen BP.out 0))
  go_wp2
  repeat (go_quiet (fail); try go_wp2)
  go_loopg [26] l0.length (fun kq v26 w' => ∃ (n : Nat) (vq : Value) (rows : List (List Value × List (List Value))), v26 = .int .i64 (n : Int) ∧ Aside0 (n ≤ l0.length) ∧ Aside0 (l0.length - n ≤ kq) ∧ Aside0 (Below w.heap.size w w') ∧ Aside0 (w'.heap[gp]? = some (.cells #[.slice A0 l0.length c0, .string a, .slice A2 l2.length c2] 27 (0, 0))) ∧ Aside0 (w'.heap[gq]? = some (.cells #[vq, .string a, .slice A2 l2.length c2] 27 (0, 0))) ∧ Aside0 (Kd.R kR 39 w' w.heap.size (fun _ => True) vq rows) ∧ Aside0 (Al (Rul w) ((l0.take n).map plainR) rows))
  case atStart => exact ⟨0, .slice none 0 0, [], rfl, ⟨Nat.zero_le _⟩, ⟨Nat.le_refl _⟩, HB, BP, BQ, ⟨Kd.R_nil _ _ _ _ _⟩, ⟨Al.nil⟩⟩
  case round =>
    clear HB BP BQ hz0 hf0
    obtain ⟨n, vq, rows, rfl, HN, HK, HB, BP, BQ, HO, HAL⟩ := hrel
    obtain ⟨wo, hwo⟩ : ∃ wo : World, wo = wr := ⟨_, rfl⟩
    subst hwo
    have hz0 : wo.cell? ⟨gp, 0, none⟩ = some (.slice A0 l0.length c0) := (blk_cell BP.out 0).trans rfl
    have hf0 := blk_frozen BP.out 0
    by_cases hlt : n < l0.length
    case neg =>
      have hn : n = l0.length := by have := HN.out; omega
      have HAQ : Aside0 (Al (Rul w) (l0.map plainR) rows) := ⟨by have h_ := HAL.out; rw [hn, List.take_length] at h_; exact h_⟩
      obtain ⟨Aq, cq, eq⟩ := Kd.R_slice HO.out
      subst eq
      obtain ⟨_, hcq, hCq⟩ := Kd.R_reads' HO.out
      have HCQ : Aside0 (Kd.C k39 wo Aq (l0.map plainR).length (l0.map plainR)) := ⟨C_rules HB.out hCq HAQ.out⟩
      have hlen := HAQ.out.1
      obtain ⟨Q, hQ⟩ : ∃ Q, Q = l0.map plainR := ⟨_, rfl⟩
      rw [← hQ] at hlen HCQ AQ
      rw [← hlen] at hcq
      have HQC := Aside0.mk hcq
      have n0_ : Aside0 (wo.heap[gq]? = some (.cells #[.slice Aq Q.length cq, .string a, .slice A2 l2.length c2] 27 (0, 0))) := ⟨by rw [hlen]; exact BQ.out⟩
      clear BQ
      have BQ := n0_
      clear n0_ HO HAL HAQ hCq hcq hlen hQ hz0 hf0
      have HBR := Aside0.mk (Below.refl wo.heap.size wo)
      obtain ⟨p1, p2⟩ := p
      obtain ⟨q1, q2⟩ := q
      have h := HH.out
      dsimp only at h
      by_cases e1 : q2 = 0
      case neg =>
        rw [if_neg e1] at h
        obtain rfl := Option.some.inj h
        have b1 := beq_eq_false_iff_ne.mpr e1
        go_wp2_with (first
          | ((with_reducible refine gate_dst (N := 77) rfl ?_); refine Kd.event_run rfl (load_cells (c := [.slice A0 l0.length c0, .string a, .slice A2 l2.length c2]) rfl rfl agg27 sz27 (box_cells BP.out)) ?_)
          | (go_at_call 10; (with_reducible refine (strata_Strata.calls k A0 c0 l0 a A2 c2 l2 p1 p2 _ (Kd.C_below HR0.out HB.out) HC0.out (Kd.C_below HR2.out HB.out) HC2.out AP.out).mono ?_); rintro e w3 ⟨v1, rfl, ho, hb⟩; obtain ⟨Ao, co, eo⟩ := Kd.S_slice ho; subst eo; have HS1 := Aside0.mk ho; have HB1 := Aside0.mk (below_step HB.out hb); have BQ1 := Aside0.mk (blk_below BQ.out hb); have HW1 := Aside0.mk hb; clear ho hb)
          | ((with_reducible refine gate_dst (N := 82) rfl ?_); refine Kd.event_run rfl (load_cells (c := [.slice Aq Q.length cq, .string a, .slice A2 l2.length c2]) rfl rfl agg27 sz27 (box_cells BQ1.out)) ?_)
          | (go_at_call 10; (with_reducible refine (strata_Strata.calls k Aq cq Q a A2 c2 l2 q1 q2 _ (Kd.C_below HCQ.out HW1.out) HQC.out (Kd.C_below HR2.out HB1.out) HC2.out AQ.out).mono ?_); rintro e w4 ⟨v2, rfl, ho, hb⟩; obtain ⟨Ap, cp, ep⟩ := Kd.S_slice ho; subst ep; have HS2 := Aside0.mk ho; have HS3 := Aside0.mk (Kd.S_below HS1.out hb); have HB2 := Aside0.mk (below_step HB1.out hb); clear ho hb))
        go_wp2
        repeat (go_quiet (fail); try go_wp2)
        go_ret
        exact ⟨rfl, by repeat (first | (with_reducible first | exact HB2.out | apply below_alloc | apply pw_below_drewN | apply below_drew1) | exact HB2.out)⟩
      rw [if_pos e1] at h
      have b1 : (q2 == 0) = true := beq_iff_eq.mpr e1
      by_cases e2 : p2 = 0
      case neg =>
        rw [if_neg e2] at h
        obtain rfl := Option.some.inj h
        have b2 := bne_iff_ne.mpr e2
        go_wp2_with (first
          | ((with_reducible refine gate_dst (N := 77) rfl ?_); refine Kd.event_run rfl (load_cells (c := [.slice A0 l0.length c0, .string a, .slice A2 l2.length c2]) rfl rfl agg27 sz27 (box_cells BP.out)) ?_)
          | (go_at_call 10; (with_reducible refine (strata_Strata.calls k A0 c0 l0 a A2 c2 l2 p1 p2 _ (Kd.C_below HR0.out HB.out) HC0.out (Kd.C_below HR2.out HB.out) HC2.out AP.out).mono ?_); rintro e w3 ⟨v1, rfl, ho, hb⟩; obtain ⟨Ao, co, eo⟩ := Kd.S_slice ho; subst eo; have HS1 := Aside0.mk ho; have HB1 := Aside0.mk (below_step HB.out hb); have BQ1 := Aside0.mk (blk_below BQ.out hb); have HW1 := Aside0.mk hb; clear ho hb)
          | ((with_reducible refine gate_dst (N := 82) rfl ?_); refine Kd.event_run rfl (load_cells (c := [.slice Aq Q.length cq, .string a, .slice A2 l2.length c2]) rfl rfl agg27 sz27 (box_cells BQ1.out)) ?_)
          | (go_at_call 10; (with_reducible refine (strata_Strata.calls k Aq cq Q a A2 c2 l2 q1 q2 _ (Kd.C_below HCQ.out HW1.out) HQC.out (Kd.C_below HR2.out HB1.out) HC2.out AQ.out).mono ?_); rintro e w4 ⟨v2, rfl, ho, hb⟩; obtain ⟨Ap, cp, ep⟩ := Kd.S_slice ho; subst ep; have HS2 := Aside0.mk ho; have HS3 := Aside0.mk (Kd.S_below HS1.out hb); have HB2 := Aside0.mk (below_step HB1.out hb); clear ho hb))
        go_wp2
        repeat (go_quiet (fail); try go_wp2)
        go_ret
        exact ⟨rfl, by repeat (first | (with_reducible first | exact HB2.out | apply below_alloc | apply pw_below_drewN | apply below_drew1) | exact HB2.out)⟩
      rw [if_pos e2] at h
      have b2 : (p2 != 0) = false := bne_eq_false_iff_eq.mpr e2
      have AS := Aside0.mk h
      clear h
      go_wp2_with (first
        | ((with_reducible refine gate_dst (N := 77) rfl ?_); refine Kd.event_run rfl (load_cells (c := [.slice A0 l0.length c0, .string a, .slice A2 l2.length c2]) rfl rfl agg27 sz27 (box_cells BP.out)) ?_)
        | (go_at_call 10; (with_reducible refine (strata_Strata.calls k A0 c0 l0 a A2 c2 l2 p1 p2 _ (Kd.C_below HR0.out HB.out) HC0.out (Kd.C_below HR2.out HB.out) HC2.out AP.out).mono ?_); rintro e w3 ⟨v1, rfl, ho, hb⟩; obtain ⟨Ao, co, eo⟩ := Kd.S_slice ho; subst eo; have HS1 := Aside0.mk ho; have HB1 := Aside0.mk (below_step HB.out hb); have BQ1 := Aside0.mk (blk_below BQ.out hb); have HW1 := Aside0.mk hb; clear ho hb)
        | ((with_reducible refine gate_dst (N := 82) rfl ?_); refine Kd.event_run rfl (load_cells (c := [.slice Aq Q.length cq, .string a, .slice A2 l2.length c2]) rfl rfl agg27 sz27 (box_cells BQ1.out)) ?_)
        | (go_at_call 10; (with_reducible refine (strata_Strata.calls k Aq cq Q a A2 c2 l2 q1 q2 _ (Kd.C_below HCQ.out HW1.out) HQC.out (Kd.C_below HR2.out HB1.out) HC2.out AQ.out).mono ?_); rintro e w4 ⟨v2, rfl, ho, hb⟩; obtain ⟨Ap, cp, ep⟩ := Kd.S_slice ho; subst ep; have HS2 := Aside0.mk ho; have HS3 := Aside0.mk (Kd.S_below HS1.out hb); have HB2 := Aside0.mk (below_step HB1.out hb); clear ho hb)
        | (go_at_call 14; (with_reducible refine (antecedentref13_Same.calls k _ _ p1 _ _ q1 r _ (Kd.S_reads' HS3.out).2.2 (Kd.S_reads' HS3.out).2.1 (Kd.S_reads' HS2.out).2.2 (Kd.S_reads' HS2.out).2.1 AS.out).mono ?_); rintro e w' ⟨rfl, ⟨nd, rfl⟩⟩))
      go_wp2
      repeat (go_quiet (fail); try go_wp2)
      go_ret
      exact ⟨rfl, by repeat (first | (with_reducible first | exact HB2.out | apply below_alloc | apply pw_below_drewN | apply below_drew1) | exact HB2.out)⟩
    obtain ⟨ad, A1, c1, A3, c3, ea, hx0, hx1, hx2, hx3, hl1, hi1, hl3, hi3⟩ := at_T39 HR0.out (n : Int) (by omega) (by omega)
    cases ea
    replace hx0 := (HB.out.cell (World.block_lt_of_cell? w _ hx0)).trans hx0
    replace hx1 := (HB.out.cell (World.block_lt_of_cell? w _ hx1)).trans hx1
    replace hx3 := (HB.out.cell (World.block_lt_of_cell? w _ hx3)).trans hx3
    clear hx2
    have HXN : Aside0 (rd_T39 l0 (n : Int) = l0[n]) := ⟨by unfold rd_T39; rw [Int.toNat_natCast, List.getD_eq_getElem?_getD, List.getElem?_eq_getElem hlt]; rfl⟩
    generalize hx : rd_T39 l0 (n : Int) = x at hx0 hx1 hx3 hl1 hi1 hl3 hi3 HXN
    rw [Int.toNat_natCast] at hx0 hx1 hx3
    have HL1 := Aside0.mk hl1
    have HI1 := Aside0.mk hi1
    have HI3 := Aside0.mk hi3
    have HX3 := Aside0.mk hx3
    have HBR := Aside0.mk (Below.refl wo.heap.size wo)
    clear hl1 hi1 hl3 hi3 hx
    have hn0 : (0 : Int) ≤ (n : Int) := by omega
    have hn1 : (n : Int) < (l0.length : Int) := by omega
    go_wp2_with (first
      | ((with_reducible refine gate_dst (N := 5) rfl ?_); refine box_event ?hg (N := 5) ?hd (cs := #[.string ⟨#[]⟩, .slice none 0 0, .int .i64 0, .slice none 0 0]) (t := 39) ?hr ?_; (case hd => rfl); (case hg => rfl); (case hr => first | (go_simp; done) | (go_simp; rfl)); intro gy hg w5 hbox hb; have BY := Aside0.mk hbox; have n2_ := Aside0.mk (below_step HBR.out hb); have GY : Aside0 (wo.heap.size ≤ gy) := ⟨by rw [hg]; exact HBR.out.size⟩; clear HBR; have HBR := n2_; clear n2_ hb hg hbox)
      | ((with_reducible refine gate_store (t := 39) (p := 5) rfl ?_); refine store_event (t := 39) (p := 5) (v := ?vo2_) (w1 := w5.setRow gy #[.string x.f0.f0, .slice A1 x.f0.f1.length c1, .int .i64 0, .slice none 0 0]) ?hg ?ho ?hn ?hr ?_; (case ho => rfl); (case hg => rfl); (case hn => rfl); (case hr => exact store_row rfl rfl rfl BY.out size39 rfl (by simp [Value.oneCell'])); intro w6 hw; have n0_ : Aside0 (w6.heap[gy]? = some (.cells #[.string x.f0.f0, .slice A1 x.f0.f1.length c1, .int .i64 0, .slice none 0 0] 39 (0, 0))) := ⟨by rw [hw]; exact set_row_at BY.out⟩; have n1_ : Aside0 (Below wo.heap.size wo w6) := ⟨by rw [hw]; exact set_row_below _ HBR.out GY.out⟩; clear hw; clear BY HBR; have BY := n0_; have HBR := n1_; clear n0_ n1_; clear hz0 hf0 hx0 hx1 hx3; have BPn := Aside0.mk (blk_below BP.out HBR.out); have hz0 : w6.cell? ⟨gp, 0, none⟩ = some (.slice (some ad) l0.length c0) := (blk_cell BPn.out 0).trans rfl; have hf0 := blk_frozen BPn.out 0; have hx3 := (HBR.out.cell (World.block_lt_of_cell? wo _ HX3.out)).trans HX3.out))
    go_wp2
    repeat (go_quiet (fail); try go_wp2)
    clear hn0 hn1 hz0 hf0 hx3
    go_loopg [43] x.f2.length (fun kq v43 w' => ∃ (m : Nat) (vb : Value) (lits : List (List Value)), v43 = .int .i64 (m : Int) ∧ Aside0 (m ≤ x.f2.length) ∧ Aside0 (x.f2.length - m ≤ kq) ∧ Aside0 (Below wo.heap.size wo w') ∧ Aside0 (w'.heap[gy]? = some (.cells #[.string x.f0.f0, .slice A1 x.f0.f1.length c1, .int .i64 0, vb] 39 (0, 0))) ∧ Aside0 (Kd.R kL 46 w' wo.heap.size (fun _ => True) vb lits) ∧ Aside0 (Al (fun x c => k46.K w x c) (plainB (x.f2.take m)) lits))
    case atStart => exact ⟨0, .slice none 0 0, [], rfl, ⟨Nat.zero_le _⟩, ⟨Nat.le_refl _⟩, HBR, BY, ⟨Kd.R_nil _ _ _ _ _⟩, ⟨Al.nil⟩⟩
    case round =>
      clear HBR BY BPn
      obtain ⟨m, vb, lits, rfl, HM, HKm, HBR, BY, HOb, HAb⟩ := hrel
      have BPm := Aside0.mk (blk_below BP.out HBR.out)
      have hz0 : wr.cell? ⟨gp, 0, none⟩ = some (.slice (some ad) l0.length c0) := (blk_cell BPm.out 0).trans rfl
      have hf0 := blk_frozen BPm.out 0
      by_cases hmt : m < x.f2.length
      case neg =>
        have HME : Aside0 (m = x.f2.length) := ⟨by have := HM.out; omega⟩
        have BQm := Aside0.mk (blk_below BQ.out HBR.out)
        have hzq : wr.cell? ⟨gq, 0, none⟩ = some vq := (blk_cell BQm.out 0).trans rfl
        have hfq := blk_frozen BQm.out 0
        obtain ⟨row, hrow⟩ : ∃ row : List Value × List (List Value), row = ([.string x.f0.f0, .slice A1 x.f0.f1.length c1, .int .i64 0], lits) := ⟨_, rfl⟩
        have HRW := Aside0.mk hrow
        obtain ⟨L, hL⟩ : ∃ L, L = rows ++ [row] := ⟨_, rfl⟩
        have HL := Aside0.mk hL
        have HLN := Aside0.mk hlt
        have HLQ : Aside0 ((rows.length + 1) * 72 ≤ 140737488355328) := ⟨by have h1 := HAL.out.1; rw [List.length_map, List.length_take] at h1; have h2 := HG.out.1; omega⟩
        have HPM : Aside0 (kR.M wr w.heap.size (fun k_ => wo.heap.size ≤ k_) row [.string x.f0.f0, .slice A1 x.f0.f1.length c1, .int .i64 0, vb]) := ⟨by rw [HRW.out]; exact ⟨[.string x.f0.f0, .slice A1 x.f0.f1.length c1, .int .i64 0], [vb], rfl, ⟨rfl, rfl, by simp [Value.oneCell']⟩, ⟨vb, rfl, Kd.R_lower (Kd.R_mono (Kd.R_bound HOb.out) (fun k_ hk_ => hk_.2.1)) HB.out.size⟩⟩⟩
        have HNP := Aside0.mk (Kd.R_ne HO.out BP.out (by decide))
        have HNQ := Aside0.mk (Kd.R_ne HO.out BQ.out (by decide))
        clear hrow hL
        go_wp2_with (first
          | ((with_reducible refine gate_dst (N := 71) rfl ?_); refine Kd.event_run rfl (load_cells (c := [.string x.f0.f0, .slice A1 x.f0.f1.length c1, .int .i64 0, vb]) rfl rfl agg39 sz39 (box_cells BY.out)) ?_)
          | ((with_reducible refine gate_dst (N := 72) rfl ?_); refine Kd.event_run rfl (build39 rfl rfl) ?_)
          | ((with_reducible refine gate_builtin (b := .append) (xs := #[.tmp 70, .tmp 72]) rfl ?_); at_builtin; refine Kd.R_append kR (w0 := w) w.heap.size rfl (.tmp 70) (.tmp 72) 22 39 (.agg #[.string ⟨#[]⟩, .slice none 0 0, .int .i64 0, .slice none 0 0]) 72 rfl Try.underlying22 info39 rfl (by decide) (by omega) vq rows row [.string x.f0.f0, .slice A1 x.f0.f1.length c1, .int .i64 0, vb] (fun _ => True) (fun k_ => wo.heap.size ≤ k_) rfl rfl HPM.out (fun k_ hk_ => ⟨trivial, fun e_ => by have h_ := Kd.R_lt HO.out k_ e_.symm; omega⟩) (fun _ _ => trivial) (Kd.R_below HO.out HBR.out) (below_step HB.out HBR.out) (Nat.le_trans HB.out.size HBR.out.size) HLQ.out ?_; intro v1 w9 ho hb hg hat; rw [← HL.out] at ho; obtain ⟨Ao, co, eo⟩ := Kd.R_slice ho; subst eo; have F1 := Aside0.mk hb; have F2 := Aside0.mk (blk_grown BQm.out hg HNQ.out); have F4 := Aside0.mk (blk_grown BPm.out hg HNP.out); have F3 := Aside0.mk ho; clear ho hb hg hat hzq hfq; have hzq : w9.cell? ⟨gq, 0, none⟩ = some vq := (blk_cell F2.out 0).trans rfl; have hfq := blk_frozen F2.out 0))
        go_roundg (l0.length - (n + 1))
        case measure => have := HK.out; have := HLN.out; omega
        case rel => exact ⟨n + 1, .slice Ao L.length co, L, by have h := HLN.out; have h2 := HG.out.1; simp; unfold wrap64; omega, ⟨HLN.out⟩, ⟨Nat.le_refl _⟩, ⟨below_set F1.out GQ.out⟩, ⟨blk_far (p := ⟨gq, 0, none⟩) F4.out (by have := PQ.out; show gp ≠ gq; omega) _⟩, ⟨blk_put (cs := #[vq, .string a, .slice A2 l2.length c2]) F2.out 0 (.slice Ao L.length co) rfl⟩, ⟨Kd.R_mono (Kd.R_far (p := ⟨gq, 0, none⟩) (Kd.R_types F3.out F2.out (by decide)) (fun _ hk => hk.2) (.slice Ao L.length co)) (fun _ _ => trivial)⟩, ⟨by rw [List.take_succ_eq_append_getElem HLN.out, List.map_append, HL.out]; refine HAL.out.snoc ?_; rw [HRW.out, ← HXN.out]; exact ⟨⟨A1, c1, rfl, HL1.out, HI1.out⟩, by have h_ := HAb.out; rw [HME.out, List.take_length] at h_; exact h_⟩⟩⟩
      have hx3 := (HBR.out.cell (World.block_lt_of_cell? wo _ HX3.out)).trans HX3.out
      have HXX : Aside0 (w.heap.size ≤ wr.heap.size) := ⟨Nat.le_trans HB.out.size HBR.out.size⟩
      obtain ⟨ad2, c, ea2, hcl, hK, hc⟩ := Kd.C_get HI3.out z46 (m : Int) (by omega) (by omega)
      cases ea2
      rw [Int.toNat_natCast] at hK hc
      have HXM : Aside0 (x.f2.getD m z46 = x.f2[m]) := ⟨by rw [List.getD_eq_getElem?_getD, List.getElem?_eq_getElem hmt]; rfl⟩
      generalize hy : x.f2.getD m z46 = y at hK HXM
      obtain ⟨q1, q2, q3, q4⟩ := plain_cells hK
      have HCL := Aside0.mk q1
      have HC1 := Aside0.mk q2
      have HC0' := Aside0.mk q3
      have HCZ := Aside0.mk q4
      have HKC := Aside0.mk hK
      have HCC : Aside0 (∀ j u, c[j]? = some u → wr.cell? ((ad2.add (m * 17)).add j) = some u) := ⟨fun j u hj => by
        have h := hc j u hj
        rw [add_add]
        exact ((below_step HB.out HBR.out).cell (World.block_lt_of_cell? w _ h)).trans h⟩
      have HB2 := Aside0.mk (Below.refl wr.heap.size wr)
      have HMT := Aside0.mk hmt
      have HBD : Aside0 (x.f2.length ≤ 100000) := ⟨by rw [HXN.out]; exact HG.out.2 _ (List.getElem_mem hlt)⟩
      have HLL : Aside0 ((lits.length + 1) * 232 ≤ 140737488355328) := ⟨by have h1 := HAb.out.1; have h2 := plainB_len x.f2 m; have h3 := HBD.out; omega⟩
      have HNY := Aside0.mk (Kd.R_ne HOb.out BY.out (by decide))
      have HYM : Aside0 (y = x.f2[m]) := HXM
      clear q1 q2 q3 q4 hK hc hcl hy
      have hn0 : (0 : Int) ≤ (n : Int) := by omega
      have hn1 : (n : Int) < (l0.length : Int) := by omega
      have hm0 : (0 : Int) ≤ (m : Int) := by omega
      have hm1 : (m : Int) < (x.f2.length : Int) := by omega
      have HCL' : Aside0 ((c.set 0 (.int .i64 1)).length = 17) := ⟨by rw [List.length_set]; exact HCL.out⟩
      have HC1' : Aside0 (∀ u ∈ c.set 0 (.int .i64 1), u.oneCell' = true) := ⟨fun u hu => by rcases List.mem_or_eq_of_mem_set hu with h_ | h_; exact HC1.out u h_; rw [h_]; rfl⟩
      by_cases hy2 : y.f0 = 2
      case pos =>
        have hy2b : (y.f0 == 2) = true := beq_iff_eq.mpr hy2
        obtain ⟨L, hL⟩ : ∃ L, L = lits ++ [c.set 0 (.int .i64 1)] := ⟨_, rfl⟩
        have HL := Aside0.mk hL
        clear hL
        go_wp2_with (first
          | ((with_reducible refine gate_dst (N := 54) rfl ?_); refine Kd.event_run rfl (load_cells (c := c) rfl rfl (Try.isAgg46 _) (by rw [HCL.out]; exact Try.sizeOf46 _) HCC.out) ?_)
          | ((with_reducible refine gate_dst (N := 7) rfl ?_); refine box_event ?hg (N := 7) ?hd (cs := zs46) (t := 46) ?hr ?_; (case hd => rfl); (case hg => rfl); (case hr => exact alloc46 rfl); intro gl hg w7 hbox hb; have n0_ := Aside0.mk (below_step HB2.out hb); have BL := Aside0.mk hbox; have GL : Aside0 (wr.heap.size ≤ gl) := ⟨by rw [hg]; exact HB2.out.size⟩; clear HB2; have HB2 := n0_; clear n0_ hb hg hbox)
          | ((with_reducible refine gate_store (t := 46) (p := 7) rfl ?_); refine store_event (t := 46) (p := 7) (v := ?vo4_) (w1 := w7.setRow gl c.toArray) ?hg ?ho ?hn ?hr ?_; (case ho => rfl); (case hg => rfl); (case hn => rfl); (case hr => exact store_row rfl rfl rfl BL.out (by rw [List.size_toArray, HCL.out]; exact size46) (by show (17 : Nat) = c.toArray.size; rw [List.size_toArray, HCL.out]) (fun u hu => HC1.out u hu)); intro w8 hw; have n0_ : Aside0 (w8.heap[gl]? = some (.cells c.toArray 46 (0, 0))) := ⟨by rw [hw]; exact set_row_at BL.out⟩; have n1_ : Aside0 (Below wr.heap.size wr w8) := ⟨by rw [hw]; exact set_row_below _ HB2.out GL.out⟩; clear hw; clear BL HB2; have BL := n0_; have HB2 := n1_; clear n0_ n1_; clear hz0 hf0 hx3; have hzl : w8.cell? ⟨gl, 0, none⟩ = some (.int .i64 y.f0) := (blk_cell BL.out 0).trans (by rw [List.getElem?_toArray]; exact HC0'.out); have hfl := blk_frozen BL.out 0; have BY8 := Aside0.mk (blk_below BY.out HB2.out); have BL' : Aside0 ((w8.setCell ⟨gl, 0, none⟩ (.int .i64 1)).heap[gl]? = some (.cells (c.set 0 (.int .i64 1)).toArray 46 (0, 0))) := ⟨blk_put (cs := c.toArray) BL.out 0 _ (by simp)⟩; have HB2' : Aside0 (Below wr.heap.size wr (w8.setCell ⟨gl, 0, none⟩ (.int .i64 1))) := ⟨below_set HB2.out GL.out⟩; have hzl' : (w8.setCell ⟨gl, 0, none⟩ (.int .i64 1)).cell? ⟨gl, 0, none⟩ = some (.int .i64 1) := (blk_cell BL'.out 0).trans (by have h_ := HCL.out; rw [List.getElem?_toArray, List.getElem?_set_self (by omega)]); have BY8' := Aside0.mk (blk_below BY.out HB2'.out); have hzy : (w8.setCell ⟨gl, 0, none⟩ (.int .i64 1)).cell? ⟨gy, 3, none⟩ = some vb := (blk_cell BY8'.out 3).trans rfl; have hfy := blk_frozen BY8'.out 3; have hfl' := blk_frozen BL'.out 0)
          | ((with_reducible refine gate_dst (N := 64) rfl ?_); refine Kd.event_run rfl (load_cells (c := (c.set 0 (.int .i64 1))) rfl rfl (Try.isAgg46 _) (by rw [HCL'.out]; exact Try.sizeOf46 _) (box_cells BL'.out)) ?_)
          | ((with_reducible refine gate_dst (N := 65) rfl ?_); refine Kd.event_run rfl (build46 rfl rfl HCL'.out) ?_)
          | ((with_reducible refine gate_builtin (b := .append) (xs := #[.tmp 63, .tmp 65]) rfl ?_); at_builtin; refine Kd.R_append kL (w0 := wo) wo.heap.size rfl (.tmp 63) (.tmp 65) 37 46 (.agg zs46) 232 rfl Try.underlying37 info46 rfl (by decide) (by omega) vb lits (c.set 0 (.int .i64 1)) (c.set 0 (.int .i64 1)) (fun _ => True) (fun _ => False) rfl rfl ⟨rfl, HCL'.out, HC1'.out⟩ (fun _ hk => hk.elim) (fun _ _ => trivial) (Kd.R_below HOb.out HB2'.out) (below_step HBR.out HB2'.out) (Nat.le_trans HBR.out.size HB2'.out.size) HLL.out ?_; intro v1 w9 ho hb hg hat; rw [← HL.out] at ho; obtain ⟨Ao, co, eo⟩ := Kd.R_slice ho; subst eo; have F1 := Aside0.mk hb; have F2 := Aside0.mk (blk_grown (blk_below BY.out HB2'.out) hg HNY.out); have F3 := Aside0.mk ho; clear ho hb hg hat hzy hfy; have hzy : w9.cell? ⟨gy, 3, none⟩ = some vb := (blk_cell F2.out 3).trans rfl; have hfy := blk_frozen F2.out 3))
        go_roundg (x.f2.length - (m + 1))
        case measure => have := HKm.out; have := HMT.out; omega
        case rel => exact ⟨m + 1, .slice Ao L.length co, L, by have h := HMT.out; have h2 := HBD.out; simp; unfold wrap64; omega, ⟨HMT.out⟩, ⟨Nat.le_refl _⟩, ⟨below_set F1.out GY.out⟩, ⟨blk_put (cs := #[.string x.f0.f0, .slice A1 x.f0.f1.length c1, .int .i64 0, vb]) F2.out 3 (.slice Ao L.length co) rfl⟩, ⟨Kd.R_mono (Kd.R_far (p := ⟨gy, 3, none⟩) (Kd.R_types F3.out F2.out (by decide)) (fun _ hk => hk.2) (.slice Ao L.length co)) (fun _ _ => trivial)⟩, ⟨by rw [plainB_take HMT.out]; have e_ : plainL x.f2[m] = { y with f0 := 1 } := (by rw [← HYM.out]; unfold plainL; rw [if_pos hy2]); rw [e_, if_pos (show (1 : Int) ≠ 4 by decide)]; rw [HL.out]; exact HAb.out.snoc (HCZ.out 1)⟩⟩
      have hy2b := beq_eq_false_iff_ne.mpr hy2
      by_cases hy4 : y.f0 = 4
      case pos =>
        have hy4b : (y.f0 != 4) = false := bne_eq_false_iff_eq.mpr hy4
        go_wp2_with (first
          | ((with_reducible refine gate_dst (N := 54) rfl ?_); refine Kd.event_run rfl (load_cells (c := c) rfl rfl (Try.isAgg46 _) (by rw [HCL.out]; exact Try.sizeOf46 _) HCC.out) ?_)
          | ((with_reducible refine gate_dst (N := 7) rfl ?_); refine box_event ?hg (N := 7) ?hd (cs := zs46) (t := 46) ?hr ?_; (case hd => rfl); (case hg => rfl); (case hr => exact alloc46 rfl); intro gl hg w7 hbox hb; have n0_ := Aside0.mk (below_step HB2.out hb); have BL := Aside0.mk hbox; have GL : Aside0 (wr.heap.size ≤ gl) := ⟨by rw [hg]; exact HB2.out.size⟩; clear HB2; have HB2 := n0_; clear n0_ hb hg hbox)
          | ((with_reducible refine gate_store (t := 46) (p := 7) rfl ?_); refine store_event (t := 46) (p := 7) (v := ?vo5_) (w1 := w7.setRow gl c.toArray) ?hg ?ho ?hn ?hr ?_; (case ho => rfl); (case hg => rfl); (case hn => rfl); (case hr => exact store_row rfl rfl rfl BL.out (by rw [List.size_toArray, HCL.out]; exact size46) (by show (17 : Nat) = c.toArray.size; rw [List.size_toArray, HCL.out]) (fun u hu => HC1.out u hu)); intro w8 hw; have n0_ : Aside0 (w8.heap[gl]? = some (.cells c.toArray 46 (0, 0))) := ⟨by rw [hw]; exact set_row_at BL.out⟩; have n1_ : Aside0 (Below wr.heap.size wr w8) := ⟨by rw [hw]; exact set_row_below _ HB2.out GL.out⟩; clear hw; clear BL HB2; have BL := n0_; have HB2 := n1_; clear n0_ n1_; clear hz0 hf0 hx3; have hzl : w8.cell? ⟨gl, 0, none⟩ = some (.int .i64 y.f0) := (blk_cell BL.out 0).trans (by rw [List.getElem?_toArray]; exact HC0'.out); have hfl := blk_frozen BL.out 0; have BY8 := Aside0.mk (blk_below BY.out HB2.out); skip))
        go_roundg (x.f2.length - (m + 1))
        case measure => have := HKm.out; have := HMT.out; omega
        case rel => exact ⟨m + 1, vb, lits, by have h := HMT.out; have h2 := HBD.out; simp; unfold wrap64; omega, ⟨HMT.out⟩, ⟨Nat.le_refl _⟩, ⟨below_step HBR.out HB2.out⟩, BY8, ⟨Kd.R_below HOb.out HB2.out⟩, ⟨by rw [plainB_take HMT.out]; have e_ : plainL x.f2[m] = y := (by rw [← HYM.out]; unfold plainL; rw [if_neg hy2]); rw [e_, if_neg (by simpa using hy4), List.append_nil]; exact HAb.out⟩⟩
      have hy4b := bne_iff_ne.mpr hy4
      obtain ⟨L, hL⟩ : ∃ L, L = lits ++ [c] := ⟨_, rfl⟩
      have HL := Aside0.mk hL
      clear hL
      go_wp2_with (first
        | ((with_reducible refine gate_dst (N := 54) rfl ?_); refine Kd.event_run rfl (load_cells (c := c) rfl rfl (Try.isAgg46 _) (by rw [HCL.out]; exact Try.sizeOf46 _) HCC.out) ?_)
        | ((with_reducible refine gate_dst (N := 7) rfl ?_); refine box_event ?hg (N := 7) ?hd (cs := zs46) (t := 46) ?hr ?_; (case hd => rfl); (case hg => rfl); (case hr => exact alloc46 rfl); intro gl hg w7 hbox hb; have n0_ := Aside0.mk (below_step HB2.out hb); have BL := Aside0.mk hbox; have GL : Aside0 (wr.heap.size ≤ gl) := ⟨by rw [hg]; exact HB2.out.size⟩; clear HB2; have HB2 := n0_; clear n0_ hb hg hbox)
        | ((with_reducible refine gate_store (t := 46) (p := 7) rfl ?_); refine store_event (t := 46) (p := 7) (v := ?vo3_) (w1 := w7.setRow gl c.toArray) ?hg ?ho ?hn ?hr ?_; (case ho => rfl); (case hg => rfl); (case hn => rfl); (case hr => exact store_row rfl rfl rfl BL.out (by rw [List.size_toArray, HCL.out]; exact size46) (by show (17 : Nat) = c.toArray.size; rw [List.size_toArray, HCL.out]) (fun u hu => HC1.out u hu)); intro w8 hw; have n0_ : Aside0 (w8.heap[gl]? = some (.cells c.toArray 46 (0, 0))) := ⟨by rw [hw]; exact set_row_at BL.out⟩; have n1_ : Aside0 (Below wr.heap.size wr w8) := ⟨by rw [hw]; exact set_row_below _ HB2.out GL.out⟩; clear hw; clear BL HB2; have BL := n0_; have HB2 := n1_; clear n0_ n1_; clear hz0 hf0 hx3; have hzl : w8.cell? ⟨gl, 0, none⟩ = some (.int .i64 y.f0) := (blk_cell BL.out 0).trans (by rw [List.getElem?_toArray]; exact HC0'.out); have hfl := blk_frozen BL.out 0; have BY8 := Aside0.mk (blk_below BY.out HB2.out); have hzy : w8.cell? ⟨gy, 3, none⟩ = some vb := (blk_cell BY8.out 3).trans rfl; have hfy := blk_frozen BY8.out 3)
        | ((with_reducible refine gate_dst (N := 64) rfl ?_); refine Kd.event_run rfl (load_cells (c := c) rfl rfl (Try.isAgg46 _) (by rw [HCL.out]; exact Try.sizeOf46 _) (box_cells BL.out)) ?_)
        | ((with_reducible refine gate_dst (N := 65) rfl ?_); refine Kd.event_run rfl (build46 rfl rfl HCL.out) ?_)
        | ((with_reducible refine gate_builtin (b := .append) (xs := #[.tmp 63, .tmp 65]) rfl ?_); at_builtin; refine Kd.R_append kL (w0 := wo) wo.heap.size rfl (.tmp 63) (.tmp 65) 37 46 (.agg zs46) 232 rfl Try.underlying37 info46 rfl (by decide) (by omega) vb lits c c (fun _ => True) (fun _ => False) rfl rfl ⟨rfl, HCL.out, HC1.out⟩ (fun _ hk => hk.elim) (fun _ _ => trivial) (Kd.R_below HOb.out HB2.out) (below_step HBR.out HB2.out) (Nat.le_trans HBR.out.size HB2.out.size) HLL.out ?_; intro v1 w9 ho hb hg hat; rw [← HL.out] at ho; obtain ⟨Ao, co, eo⟩ := Kd.R_slice ho; subst eo; have F1 := Aside0.mk hb; have F2 := Aside0.mk (blk_grown (blk_below BY.out HB2.out) hg HNY.out); have F3 := Aside0.mk ho; clear ho hb hg hat hzy hfy; have hzy : w9.cell? ⟨gy, 3, none⟩ = some vb := (blk_cell F2.out 3).trans rfl; have hfy := blk_frozen F2.out 3))
      go_roundg (x.f2.length - (m + 1))
      case measure => have := HKm.out; have := HMT.out; omega
      case rel => exact ⟨m + 1, .slice Ao L.length co, L, by have h := HMT.out; have h2 := HBD.out; simp; unfold wrap64; omega, ⟨HMT.out⟩, ⟨Nat.le_refl _⟩, ⟨below_set F1.out GY.out⟩, ⟨blk_put (cs := #[.string x.f0.f0, .slice A1 x.f0.f1.length c1, .int .i64 0, vb]) F2.out 3 (.slice Ao L.length co) rfl⟩, ⟨Kd.R_mono (Kd.R_far (p := ⟨gy, 3, none⟩) (Kd.R_types F3.out F2.out (by decide)) (fun _ hk => hk.2) (.slice Ao L.length co)) (fun _ _ => trivial)⟩, ⟨by rw [plainB_take HMT.out]; have e_ : plainL x.f2[m] = y := (by rw [← HYM.out]; unfold plainL; rw [if_neg hy2]); rw [e_, if_pos hy4]; rw [HL.out]; exact HAb.out.snoc HKC.out⟩⟩
end Go.Proofs.Ytfkilcegdajdcaa.PZ
