
/- antecedentlaw13.StrataOrder: the walk (the rules are taken in another order, each one's literals from the last one on; both programs are told to strata.Strata). -/
import Derived.Test.YtfkilcegdajdcaaGPlain
import Derived.Test.YtfkilcegdajdcaaGRaw
namespace Go.Proofs.Ytfkilcegdajdcaa.PZ
open Go.RowKit Go.Proofs.YtfkilcegdajdcaaW.PrintWords Go.Proofs.YtfkilcegdajdcaaW.PrintLast Go.Proofs.YtfkilcegdajdcaaW.PrintMore
set_option linter.unusedVariables false
set_option linter.unusedSimpArgs false
theorem turnR_len (rs : List S39) (b : Int) : (turnR rs b).length = rs.length := by
  unfold turnR
  rw [List.length_map]
  by_cases h : rs.length = 0
  · rw [List.eq_nil_of_length_eq_zero h]; simp [turnS]
  · exact turnS_len _ _ (Nat.le_of_lt (Nat.mod_lt _ (by omega)))
theorem take_snoc {α : Type} {l : List α} {n : Nat} {y : α} (h : l[n]? = some y) : l.take (n + 1) = l.take n ++ [y] := by
  obtain ⟨hl, e⟩ := List.getElem?_eq_some_iff.1 h
  rw [List.take_succ_eq_append_getElem hl, e]
theorem rev_take {l : List S46} {m : Nat} {y : S46} (hy : l[l.length - 1 - m]? = some y) (h : m < l.length) : l.reverse.take (m + 1) = l.reverse.take m ++ [y] := by
  have hl : m < l.reverse.length := by rw [List.length_reverse]; exact h
  rw [List.take_succ_eq_append_getElem hl, List.getElem_reverse]
  rw [List.getElem?_eq_getElem (by omega)] at hy
  rw [Option.some.inj hy]
def antecedentlaw13_StrataOrder.f (k : Nat) (l0 : List S39) (a : ByteArray) (l2 : List S43) (b : Int) : Option Bool :=
  (antecedentlaw13_awake.f k).bind fun t => if t = true then (antecedentlaw13_few.f k l0 a l2).bind fun c => if c = true then
    (if (0 ≤ b ∧ b ≤ 255 ∧ l0.length ≤ 100000 ∧ ∀ r ∈ l0, r.f2.length ≤ 100000) then (strata_Strata.f k l0 a l2).bind fun p => (strata_Strata.f k (turnR l0 b) a l2).bind fun q =>
      if p.2 = q.2 then antecedentref13_Same.f k p.1 q.1 else some false else none) else some true else none
def antecedentlaw13_StrataOrder.T7 : Bool × List (List Nat × List Nat) := (true, [([], []), ([0], [0]), ([], []), ([], []), ([3], [3]), ([2, 4], [2, 4]), ([], []), ([6], [6]), ([7], [7]), ([5, 8], [5, 8]), ([1, 9], [1, 9]), ([10], [10]), ([], []), ([12, 11, 0, 1, 2, 3, 4, 5, 6, 7, 8, 9, 10, 11, 12], [11, 12])])
def antecedentlaw13_StrataOrder.B7 : List Nat := [0, 1, 0, 0, 8, 28, 0, 64, 192, 508, 1023, 2047, 0, 8191]
theorem antecedentlaw13_StrataOrder.tab7 : rtab .any (opsOf Try.f4 7) = antecedentlaw13_StrataOrder.T7 := by kernel_rfl
theorem antecedentlaw13_StrataOrder.bits7 : waitsOk antecedentlaw13_StrataOrder.T7.2 antecedentlaw13_StrataOrder.B7 = true := by kernel_rfl
def antecedentlaw13_StrataOrder.T12 : Bool × List (List Nat × List Nat) := (true, [([], []), ([0], [0]), ([], []), ([2], [2]), ([], []), ([4], [4]), ([5], [5]), ([6], [6]), ([], []), ([7, 8], [7, 8]), ([3, 9], [3, 9]), ([10], [10]), ([11], [11]), ([1, 12], [1, 12]), ([0, 1, 2, 3, 4, 5, 6, 7, 8, 9, 10, 11, 12, 13], []), ([14, 13, 13, 0, 1, 2, 3, 4, 5, 6, 7, 8, 9, 10, 11, 12, 13], [13, 14])])
def antecedentlaw13_StrataOrder.B12 : List Nat := [0, 1, 0, 4, 0, 16, 48, 112, 0, 496, 1020, 2044, 4092, 8191, 16383, 32767]
theorem antecedentlaw13_StrataOrder.tab12 : rtab .any (opsOf Try.f4 12) = antecedentlaw13_StrataOrder.T12 := by kernel_rfl
theorem antecedentlaw13_StrataOrder.bits12 : waitsOk antecedentlaw13_StrataOrder.T12.2 antecedentlaw13_StrataOrder.B12 = true := by kernel_rfl
set_option maxHeartbeats 8000000 in
set_option maxRecDepth 100000 in
theorem antecedentlaw13_StrataOrder.calls (k : Nat) (A0 : Option Addr) (c0 : Nat) (l0 : List S39) (a : ByteArray) (A2 : Option Addr) (c2 : Nat) (l2 : List S43) (b : Int) (r : Bool) (w : World) (hr0 : Kd.C k39 w A0 l0.length l0) (hc0 : l0.length ≤ c0) (hr2 : Kd.C k43 w A2 l2.length l2) (hc2 : l2.length ≤ c2)
    (h : antecedentlaw13_StrataOrder.f k l0 a l2 b = some r) :
    Calls Try.prog 4 #[.agg #[.slice A0 l0.length c0, .string a, .slice A2 l2.length c2], .int .u8 b] w fun e w' => e = .returned (.bool r) ∧ Below w.heap.size w w' := by
  have hu27 := Try.underlying27
  have hu39 := Try.underlying39
  have hu46 := Try.underlying46
  have HR0 := Aside0.mk hr0
  have HC0 := Aside0.mk hc0
  have HR2 := Aside0.mk hr2
  have HC2 := Aside0.mk hc2
  have HB := Aside0.mk (Below.refl w.heap.size w)
  clear hr0 hc0 hr2 hc2
  unfold antecedentlaw13_StrataOrder.f at h
  obtain ⟨t, hA, h⟩ := Option.bind_eq_some_iff.1 h
  by_cases ht : t = true
  case neg => rw [if_neg ht] at h; cases h
  subst ht
  rw [if_pos rfl] at h
  obtain ⟨c, hF, h⟩ := Option.bind_eq_some_iff.1 h
  have AA := Aside0.mk hA
  have AF := Aside0.mk hF
  clear hA hF
  by_cases hb : c = true
  case neg =>
    rw [if_neg hb] at h
    obtain rfl := Option.some.inj h
    obtain rfl : c = false := by simpa using hb
    clear hb h
    go_enter Try.func4, Try.ntmps4
    go_wp2_with (first
      | ((with_reducible refine gate_dst (N := 2) rfl ?_); refine box_event ?hg (N := 2) ?hd (cs := #[.slice A0 l0.length c0, .string a, .slice A2 l2.length c2]) (t := 27) ?hr ?_; (case hd => rfl); (case hg => rfl); (case hr => first | (go_simp; done) | (go_simp; rfl)); intro gp hg w2 hbox hb; have n0_ := Aside0.mk (below_step HB.out hb); have n1_ := Aside0.mk hbox; clear HB; have HB := n0_; have BP := n1_; clear n0_ n1_ hb hg hbox)
      | (go_at_call 8; (with_reducible refine (antecedentlaw13_awake.calls k true _ AA.out).mono ?_); rintro e w3 ⟨rfl, hb⟩; have n0_ := Aside0.mk (below_step HB.out hb); have n1_ := Aside0.mk (blk_below BP.out hb); clear HB BP hb; have HB := n0_; have BP := n1_; clear n0_ n1_; have hz0 := (blk_cell BP.out 0).trans rfl; have hz1 := (blk_cell BP.out 1).trans rfl; have hz2 := (blk_cell BP.out 2).trans rfl; have hf0 := blk_frozen BP.out 0; have hf1 := blk_frozen BP.out 1; have hf2 := blk_frozen BP.out 2)
      | (go_at_call 9; (with_reducible refine (antecedentlaw13_few.calls k _ _ l0 a _ _ l2 false _ (Kd.C_below HR0.out HB.out) HC0.out (Kd.C_below HR2.out HB.out) HC2.out AF.out).mono ?_); rintro e w4 ⟨rfl, hb⟩; have n0_ := Aside0.mk (below_step HB.out hb); have n1_ := Aside0.mk (blk_below BP.out hb); clear HB BP hb; have HB := n0_; have BP := n1_; clear n0_ n1_))
    go_wp2
    repeat (go_quiet (fail); try go_wp2)
    go_ret
    exact ⟨rfl, HB.out⟩
  subst hb
  rw [if_pos rfl] at h
  by_cases hg : 0 ≤ b ∧ b ≤ 255 ∧ l0.length ≤ 100000 ∧ ∀ r ∈ l0, r.f2.length ≤ 100000
  case neg => rw [if_neg hg] at h; cases h
  rw [if_pos hg] at h
  obtain ⟨p, hP, h⟩ := Option.bind_eq_some_iff.1 h
  obtain ⟨q, hQ, h⟩ := Option.bind_eq_some_iff.1 h
  have AP := Aside0.mk hP
  have AQ := Aside0.mk hQ
  have HG := Aside0.mk hg
  have HH := Aside0.mk h
  clear hP hQ hg h
  go_enter Try.func4, Try.ntmps4
  go_wp2_with (first
    | ((with_reducible refine gate_dst (N := 2) rfl ?_); refine box_event ?hg (N := 2) ?hd (cs := #[.slice A0 l0.length c0, .string a, .slice A2 l2.length c2]) (t := 27) ?hr ?_; (case hd => rfl); (case hg => rfl); (case hr => first | (go_simp; done) | (go_simp; rfl)); intro gp hg w2 hbox hb; have n0_ := Aside0.mk (below_step HB.out hb); have n1_ := Aside0.mk hbox; have GP : Aside0 (w.heap.size ≤ gp) := ⟨by rw [hg]; exact HB.out.size⟩; clear HB; have HB := n0_; have BP := n1_; clear n0_ n1_ hb hg hbox)
    | (go_at_call 8; (with_reducible refine (antecedentlaw13_awake.calls k true _ AA.out).mono ?_); rintro e w3 ⟨rfl, hb⟩; have n0_ := Aside0.mk (below_step HB.out hb); have n1_ := Aside0.mk (blk_below BP.out hb); clear HB BP hb; have HB := n0_; have BP := n1_; clear n0_ n1_; have hz0 := (blk_cell BP.out 0).trans rfl; have hz1 := (blk_cell BP.out 1).trans rfl; have hz2 := (blk_cell BP.out 2).trans rfl; have hf0 := blk_frozen BP.out 0; have hf1 := blk_frozen BP.out 1; have hf2 := blk_frozen BP.out 2)
    | (go_at_call 9; (with_reducible refine (antecedentlaw13_few.calls k _ _ l0 a _ _ l2 true _ (Kd.C_below HR0.out HB.out) HC0.out (Kd.C_below HR2.out HB.out) HC2.out AF.out).mono ?_); rintro e w4 ⟨rfl, hb⟩; have n0_ := Aside0.mk (below_step HB.out hb); have n1_ := Aside0.mk (blk_below BP.out hb); clear HB BP hb hz0 hz1 hz2 hf0 hf1 hf2; have HB := n0_; have BP := n1_; clear n0_ n1_; have hz0 := (blk_cell BP.out 0).trans rfl; have hf0 := blk_frozen BP.out 0)
    | ((with_reducible refine gate_dst (N := 23) rfl ?_); refine Kd.event_run rfl (load_cells (c := [.string a, .slice A2 l2.length c2]) rfl rfl agg25 sz25 (box_at BP.out 1 _ rfl)) ?_)
    | ((with_reducible refine gate_dst (N := 5) rfl ?_); refine box_event ?hg (N := 5) ?hd (cs := #[.slice none 0 0, .string ⟨#[]⟩, .slice none 0 0]) (t := 27) ?hr ?_; (case hd => rfl); (case hg => rfl); (case hr => first | (go_simp; done) | (go_simp; rfl)); intro gq hg w5 hbox hb; have n0_ := Aside0.mk (below_step HB.out hb); have n1_ := Aside0.mk hbox; have n2_ := Aside0.mk (blk_below BP.out hb); have GQ : Aside0 (w.heap.size ≤ gq) := ⟨by rw [hg]; exact HB.out.size⟩; have PQ : Aside0 (gp < gq) := ⟨by rw [hg]; exact blk_lt BP.out⟩; clear HB BP hz0 hf0; have HB := n0_; have BQ := n1_; have BP := n2_; clear n0_ n1_ n2_ hb hg hbox)
    | ((with_reducible refine gate_store (t := 27) (p := 5) rfl ?_); refine store_event (t := 27) (p := 5) (v := ?vo_) (w1 := w5.setRow gq #[.slice none 0 0, .string a, .slice A2 l2.length c2]) ?hg ?ho ?hn ?hr ?_; (case ho => rfl); (case hg => rfl); (case hn => rfl); (case hr => exact store_row rfl rfl rfl BQ.out size27 rfl (by simp [Value.oneCell'])); intro w6 hw; have n0_ : Aside0 (w6.heap[gq]? = some (.cells #[.slice none 0 0, .string a, .slice A2 l2.length c2] 27 (0, 0))) := ⟨by rw [hw]; exact set_row_at BQ.out⟩; have n1_ : Aside0 (Below w.heap.size w w6) := ⟨by rw [hw]; exact set_row_below _ HB.out GQ.out⟩; have n2_ : Aside0 (w6.heap[gp]? = some (.cells #[.slice A0 l0.length c0, .string a, .slice A2 l2.length c2] 27 (0, 0))) := ⟨by rw [hw]; exact (setRow_other w5 gq gp _ (by have := PQ.out; omega)).trans BP.out⟩; clear hw; clear BQ HB BP; have BQ := n0_; have HB := n1_; have BP := n2_; clear n0_ n1_ n2_; have hz0 := (blk_cell BP.out 0).trans rfl; have hf0 := blk_frozen BP.out 0))
  go_wp2
  repeat (go_quiet (fail); try go_wp2)
  go_loopg [28] l0.length (fun kq v28 w' => ∃ (n : Nat) (vq : Value) (rows : List (List Value × List (List Value))), v28 = .int .i64 (n : Int) ∧ Aside0 (n ≤ l0.length) ∧ Aside0 (l0.length - n ≤ kq) ∧ Aside0 (Below w.heap.size w w') ∧ Aside0 (w'.heap[gp]? = some (.cells #[.slice A0 l0.length c0, .string a, .slice A2 l2.length c2] 27 (0, 0))) ∧ Aside0 (w'.heap[gq]? = some (.cells #[vq, .string a, .slice A2 l2.length c2] 27 (0, 0))) ∧ Aside0 (Kd.R kR 39 w' w.heap.size (fun _ => True) vq rows) ∧ Aside0 (Al (Rul w) ((turnR l0 b).take n) rows))
  case atStart => exact ⟨0, .slice none 0 0, [], rfl, ⟨Nat.zero_le _⟩, ⟨Nat.le_refl _⟩, HB, BP, BQ, ⟨Kd.R_nil _ _ _ _ _⟩, ⟨Al.nil⟩⟩
  case round =>
    clear HB BP BQ hz0 hf0
    obtain ⟨n, vq, rows, rfl, HN, HK, HB, BP, BQ, HO, HAL⟩ := hrel
    obtain ⟨wo, hwo⟩ : ∃ wo : World, wo = wr := ⟨_, rfl⟩
    subst hwo
    have hz0 : wo.cell? ⟨gp, 0, none⟩ = some (.slice A0 l0.length c0) := (blk_cell BP.out 0).trans rfl
    have hf0 := blk_frozen BP.out 0
    by_cases hlt : n < l0.length
    case neg =>
      have hn : n = l0.length := by have := HN.out; omega
      have HAQ : Aside0 (Al (Rul w) (turnR l0 b) rows) := ⟨by have h_ := HAL.out; rw [hn, List.take_of_length_le (by rw [turnR_len]; exact Nat.le_refl _)] at h_; exact h_⟩
      obtain ⟨Aq, cq, eq⟩ := Kd.R_slice HO.out
      subst eq
      obtain ⟨_, hcq, hCq⟩ := Kd.R_reads' HO.out
      have HCQ : Aside0 (Kd.C k39 wo Aq (turnR l0 b).length (turnR l0 b)) := ⟨C_rules HB.out hCq HAQ.out⟩
      have hlen := HAQ.out.1
      obtain ⟨Q, hQ⟩ : ∃ Q, Q = turnR l0 b := ⟨_, rfl⟩
      rw [← hQ] at hlen HCQ AQ
      rw [← hlen] at hcq
      have HQC := Aside0.mk hcq
      have n0_ : Aside0 (wo.heap[gq]? = some (.cells #[.slice Aq Q.length cq, .string a, .slice A2 l2.length c2] 27 (0, 0))) := ⟨by rw [hlen]; exact BQ.out⟩
      clear BQ
      have BQ := n0_
      clear n0_ HO HAL HAQ hCq hcq hlen hQ hz0 hf0
      obtain ⟨p1, p2⟩ := p
      obtain ⟨q1, q2⟩ := q
      have h := HH.out
      dsimp only at h
      by_cases e1 : p2 = q2
      case neg =>
        rw [if_neg e1] at h
        obtain rfl := Option.some.inj h
        have b1 := beq_eq_false_iff_ne.mpr e1
        go_wp2_with (first
          | ((with_reducible refine gate_dst (N := 78) rfl ?_); refine Kd.event_run rfl (load_cells (c := [.slice A0 l0.length c0, .string a, .slice A2 l2.length c2]) rfl rfl agg27 sz27 (box_cells BP.out)) ?_)
          | (go_at_call 10; (with_reducible refine (strata_Strata.calls k A0 c0 l0 a A2 c2 l2 p1 p2 _ (Kd.C_below HR0.out HB.out) HC0.out (Kd.C_below HR2.out HB.out) HC2.out AP.out).mono ?_); rintro e w3 ⟨v1, rfl, ho, hb⟩; obtain ⟨Ao, co, eo⟩ := Kd.S_slice ho; subst eo; have HS1 := Aside0.mk ho; have HB1 := Aside0.mk (below_step HB.out hb); have BQ1 := Aside0.mk (blk_below BQ.out hb); have HW1 := Aside0.mk hb; clear ho hb)
          | ((with_reducible refine gate_dst (N := 83) rfl ?_); refine Kd.event_run rfl (load_cells (c := [.slice Aq Q.length cq, .string a, .slice A2 l2.length c2]) rfl rfl agg27 sz27 (box_cells BQ1.out)) ?_)
          | (go_at_call 10; (with_reducible refine (strata_Strata.calls k Aq cq Q a A2 c2 l2 q1 q2 _ (Kd.C_below HCQ.out HW1.out) HQC.out (Kd.C_below HR2.out HB1.out) HC2.out AQ.out).mono ?_); rintro e w4 ⟨v2, rfl, ho, hb⟩; obtain ⟨Ap, cp, ep⟩ := Kd.S_slice ho; subst ep; have HS2 := Aside0.mk ho; have HS3 := Aside0.mk (Kd.S_below HS1.out hb); have HB2 := Aside0.mk (below_step HB1.out hb); clear ho hb))
        go_wp2
        repeat (go_quiet (fail); try go_wp2)
        go_ret
        exact ⟨rfl, by repeat (first | (with_reducible first | exact HB2.out | apply below_alloc | apply pw_below_drewN | apply below_drew1) | exact HB2.out)⟩
      rw [if_pos e1] at h
      have b1 : (p2 == q2) = true := beq_iff_eq.mpr e1
      have AS := Aside0.mk h
      clear h e1
      go_wp2_with (first
        | ((with_reducible refine gate_dst (N := 78) rfl ?_); refine Kd.event_run rfl (load_cells (c := [.slice A0 l0.length c0, .string a, .slice A2 l2.length c2]) rfl rfl agg27 sz27 (box_cells BP.out)) ?_)
        | (go_at_call 10; (with_reducible refine (strata_Strata.calls k A0 c0 l0 a A2 c2 l2 p1 p2 _ (Kd.C_below HR0.out HB.out) HC0.out (Kd.C_below HR2.out HB.out) HC2.out AP.out).mono ?_); rintro e w3 ⟨v1, rfl, ho, hb⟩; obtain ⟨Ao, co, eo⟩ := Kd.S_slice ho; subst eo; have HS1 := Aside0.mk ho; have HB1 := Aside0.mk (below_step HB.out hb); have BQ1 := Aside0.mk (blk_below BQ.out hb); have HW1 := Aside0.mk hb; clear ho hb)
        | ((with_reducible refine gate_dst (N := 83) rfl ?_); refine Kd.event_run rfl (load_cells (c := [.slice Aq Q.length cq, .string a, .slice A2 l2.length c2]) rfl rfl agg27 sz27 (box_cells BQ1.out)) ?_)
        | (go_at_call 10; (with_reducible refine (strata_Strata.calls k Aq cq Q a A2 c2 l2 q1 q2 _ (Kd.C_below HCQ.out HW1.out) HQC.out (Kd.C_below HR2.out HB1.out) HC2.out AQ.out).mono ?_); rintro e w4 ⟨v2, rfl, ho, hb⟩; obtain ⟨Ap, cp, ep⟩ := Kd.S_slice ho; subst ep; have HS2 := Aside0.mk ho; have HS3 := Aside0.mk (Kd.S_below HS1.out hb); have HB2 := Aside0.mk (below_step HB1.out hb); clear ho hb)
        | (go_at_call 14; (with_reducible refine (antecedentref13_Same.calls k _ _ p1 _ _ q1 r _ (Kd.S_reads' HS3.out).2.2 (Kd.S_reads' HS3.out).2.1 (Kd.S_reads' HS2.out).2.2 (Kd.S_reads' HS2.out).2.1 AS.out).mono ?_); rintro e w' ⟨rfl, ⟨nd, rfl⟩⟩))
      go_wp2
      repeat (go_quiet (fail); try go_wp2)
      go_ret
      exact ⟨rfl, by repeat (first | (with_reducible first | exact HB2.out | apply below_alloc | apply pw_below_drewN | apply below_drew1) | exact HB2.out)⟩
    have hn0 : (0 : Int) ≤ (n : Int) := by omega
    have hn1 : (n : Int) < (l0.length : Int) := by omega
    obtain ⟨J, hJ⟩ : ∃ J : Int, J = ((n : Int) + b) % (l0.length : Int) := ⟨_, rfl⟩
    have hJ0 : 0 ≤ J := by rw [hJ]; exact Int.emod_nonneg _ (by omega)
    have hJ1 : J < (l0.length : Int) := by rw [hJ]; exact Int.emod_lt_of_pos _ (by omega)
    obtain ⟨ad, cx, ea, hcl, hKx, hcx⟩ := Kd.C_get HR0.out z39 J hJ0 hJ1
    cases ea
    have HCX : Aside0 (∀ j u, cx[j]? = some u → wo.cell? ((ad.add (J.toNat * 4)).add j) = some u) := ⟨fun j u hj => by
      have h := hcx j u hj
      rw [add_add]
      exact (HB.out.cell (World.block_lt_of_cell? w _ h)).trans h⟩
    have hl0 : (0 : Int) < (l0.length : Int) := by omega
    have hne : (l0 = []) = False := eq_false (fun e_ => by rw [e_] at hlt; exact absurd hlt (Nat.not_lt_zero _))
    have hJt : (wrap64 ((n : Int) + wrap64 b)).tmod (l0.length : Int) = J := by
      have h1 := HG.out.1
      have h2 := HG.out.2.1
      have h3 := HG.out.2.2.1
      have e1 : wrap64 b = b := by unfold wrap64; omega
      have e2 : wrap64 ((n : Int) + b) = (n : Int) + b := by unfold wrap64; omega
      rw [e1, e2, hJ, Int.tmod_eq_emod_of_nonneg (by omega)]
    have HJ := Aside0.mk hJ
    have HKX := Aside0.mk hKx
    have HCL4 : Aside0 (cx.length = 4) := ⟨hcl⟩
    clear hcx hJ hKx hcl
    go_wp2
    repeat (go_quiet (fail); try go_wp2)
    trace_state
    refine start_ (n := 14) (S := fun w' => w'.cell? ⟨gp, 0, none⟩ = some (.slice (some ad) l0.length c0) ∧ ∀ j u, cx[j]? = some u → w'.cell? ((ad.add (J.toNat * 4)).add j) = some u) (ds := []) #[false, false, false, false, false, false, false, false, false, false, false, false, false, false] (by kernel_rfl) rfl rfl ⟨hz0, HCX.out⟩ (fun hHeld => ?_)
    refine with_tabW antecedentlaw13_StrataOrder.tab7 antecedentlaw13_StrataOrder.bits7 (fun HT_ HW_ => ?_)
    have HBR := Aside0.mk (below_drew (Below.refl wo.heap.size wo))
    generalize wo.drew = wd at HBR hHeld ⊢
    refine pure_ (i := 0) (N := (some 31)) (v := ?_) (a' := ?_) #[true, false, false, false, false, false, false, false, false, false, false, false, false, false] rfl rfl (any_of HT_.out (by kernel_rfl)) (fun _ _ _ h => h) (Or.inl ⟨by rfl, ?_⟩) ?_ ?_
    rotate_left
    · intro w'; go_simp; with_reducible rfl
    rotate_left
    · (simp only [Act.put, List.setIfInBounds_toArray, List.set_cons_zero, List.set_cons_succ, i64_w, i32_w]; rfl)
    refine pure_ (i := 2) (N := (some 33)) (v := ?_) (a' := ?_) #[true, false, true, false, false, false, false, false, false, false, false, false, false, false] rfl rfl (any_of HT_.out (by kernel_rfl)) (fun _ _ _ h => h) (Or.inl ⟨by rfl, ?_⟩) ?_ ?_
    rotate_left
    · intro w'; go_simp; with_reducible rfl
    rotate_left
    · (simp only [Act.put, List.setIfInBounds_toArray, List.set_cons_zero, List.set_cons_succ, i64_w, i32_w]; rfl)
    refine pure_ (i := 3) (N := (some 34)) (v := ?_) (a' := ?_) #[true, false, true, true, false, false, false, false, false, false, false, false, false, false] rfl rfl (any_of HT_.out (by kernel_rfl)) (fun _ _ _ h => h) (Or.inl ⟨by rfl, ?_⟩) ?_ ?_
    rotate_left
    · intro w'; go_simp; with_reducible rfl
    rotate_left
    · (simp only [Act.put, List.setIfInBounds_toArray, List.set_cons_zero, List.set_cons_succ, i64_w, i32_w]; rfl)
    refine pure_ (i := 4) (N := (some 35)) (v := ?_) (a' := ?_) #[true, false, true, true, true, false, false, false, false, false, false, false, false, false] rfl rfl (any_of HT_.out (by kernel_rfl)) (fun _ _ _ h => h) (Or.inl ⟨by rfl, ?_⟩) ?_ ?_
    rotate_left
    · intro w'; go_simp; with_reducible rfl
    rotate_left
    · (simp only [Act.put, List.setIfInBounds_toArray, List.set_cons_zero, List.set_cons_succ, i64_w, i32_w]; rfl)
    refine pure_ (i := 5) (N := (some 36)) (v := ?_) (a' := ?_) #[true, false, true, true, true, true, false, false, false, false, false, false, false, false] rfl rfl (any_of HT_.out (by kernel_rfl)) (fun _ _ _ h => h) (Or.inl ⟨by rfl, ?_⟩) ?_ ?_
    rotate_left
    · intro w'; go_simp; with_reducible rfl
    rotate_left
    · (simp only [Act.put, List.setIfInBounds_toArray, List.set_cons_zero, List.set_cons_succ, i64_w, i32_w]; rfl)
    refine pure_ (i := 6) (N := (some 37)) (v := ?_) (a' := ?_) #[true, false, true, true, true, true, true, false, false, false, false, false, false, false] rfl rfl (any_of HT_.out (by kernel_rfl)) (fun _ _ _ h => h) (Or.inl ⟨by rfl, ?_⟩) ?_ ?_
    rotate_left
    · intro w'; go_simp; with_reducible rfl
    rotate_left
    · (simp only [Act.put, List.setIfInBounds_toArray, List.set_cons_zero, List.set_cons_succ, i64_w, i32_w]; rfl)
    refine take_ (i := 1) (N := (some 32)) (v := ?_) (a' := ?_) #[true, true, true, true, true, true, true, false, false, false, false, false, false, false] rfl rfl (take_ofW HT_.out HW_.out (by kernel_rfl)) (fun _ _ _ h => h) (Or.inl ⟨by rfl, ?_⟩) hHeld ?_ ?_
    rotate_left
    · rintro w' hS_; obtain ⟨s0, s1⟩ := hS_; go_simp; with_reducible rfl
    rotate_left
    · (simp only [Act.put, List.setIfInBounds_toArray, List.set_cons_zero, List.set_cons_succ, i64_w, i32_w]; rfl)
    refine take_ (i := 7) (N := (some 38)) (v := ?_) (a' := ?_) #[true, true, true, true, true, true, true, true, false, false, false, false, false, false] rfl rfl (take_ofW HT_.out HW_.out (by kernel_rfl)) (fun _ _ _ h => h) (Or.inl ⟨by rfl, ?_⟩) hHeld ?_ ?_
    rotate_left
    · rintro w' hS_; obtain ⟨s0, s1⟩ := hS_; go_simp; with_reducible rfl
    rotate_left
    · (simp only [Act.put, List.setIfInBounds_toArray, List.set_cons_zero, List.set_cons_succ, i64_w, i32_w]; rfl)
    refine pure_ (i := 8) (N := (some 39)) (v := ?_) (a' := ?_) #[true, true, true, true, true, true, true, true, true, false, false, false, false, false] rfl rfl (any_of HT_.out (by kernel_rfl)) (fun _ _ _ h => h) (Or.inl ⟨by rfl, ?_⟩) ?_ ?_
    rotate_left
    · intro w'; go_simp; with_reducible rfl
    rotate_left
    · (simp only [Act.put, List.setIfInBounds_toArray, List.set_cons_zero, List.set_cons_succ, i64_w, i32_w]; rfl)
    refine take_ (i := 9) (N := (some 40)) (v := ?_) (a' := ?_) #[true, true, true, true, true, true, true, true, true, true, false, false, false, false] rfl rfl (take_ofW HT_.out HW_.out (by kernel_rfl)) (fun _ _ _ h => h) (Or.inl ⟨by rfl, ?_⟩) hHeld ?_ ?_
    rotate_left
    · rintro w' hS_; obtain ⟨s0, s1⟩ := hS_; go_simp; with_reducible rfl
    rotate_left
    · (simp only [Act.put, List.setIfInBounds_toArray, List.set_cons_zero, List.set_cons_succ, i64_w, i32_w]; rfl)
    refine take_ (i := 10) (N := (some 41)) (v := ?_) (a' := ?_) #[true, true, true, true, true, true, true, true, true, true, true, false, false, false] rfl rfl (take_ofW HT_.out HW_.out (by kernel_rfl)) (fun _ _ _ h => h) (Or.inl ⟨by rfl, ?_⟩) hHeld ?_ ?_
    rotate_left
    · rintro w' hS_; obtain ⟨s0, s1⟩ := hS_; go_simp; with_reducible rfl
    rotate_left
    · (simp only [Act.put, List.setIfInBounds_toArray, List.set_cons_zero, List.set_cons_succ, i64_w, i32_w]; rfl)
    refine take_ (i := 11) (N := (some 42)) (v := ?_) (a' := ?_) #[true, true, true, true, true, true, true, true, true, true, true, true, false, false] rfl rfl (take_ofW HT_.out HW_.out (by kernel_rfl)) (fun _ _ _ h => h) (Or.inl ⟨by rfl, ?_⟩) hHeld ?_ ?_
    rotate_left
    · rintro w' hS_; refine Eq.trans (load_cells (c := cx) rfl rfl agg39 (by rw [HCL4.out]; exact sz39) hS_.2) ?_; with_reducible rfl
    rotate_left
    · (simp only [Act.put, List.setIfInBounds_toArray, List.set_cons_zero, List.set_cons_succ, i64_w, i32_w]; rfl)
    refine one_ (i := 12) (N := (some 7)) #[true, true, true, true, true, true, true, true, true, true, true, true, true, false] rfl rfl (one_of HT_.out (by kernel_rfl)) (by decide) (fun K hK => ?_)
    refine box_step (by rfl) (N := 7) rfl (cs := #[.string ⟨#[]⟩, .slice none 0 0, .int .i64 0, .slice none 0 0]) (t := 39) (by first | (go_simp; done) | (go_simp; rfl)) ?_
    intro gx hg w5 hbox hb
    have BX := Aside0.mk hbox
    have n0_ := Aside0.mk (below_step HBR.out hb)
    have GX : Aside0 (wo.heap.size ≤ gx) := ⟨by rw [hg]; exact HBR.out.size⟩
    clear HBR
    have HBR := n0_
    clear n0_ hg
    have hH0 := (hb.cell (World.block_lt_of_cell? _ _ hHeld.1)).trans hHeld.1
    have hH1 : ∀ j u, cx[j]? = some u → w5.cell? ((ad.add (J.toNat * 4)).add j) = some u := fun j u hj => (hb.cell (World.block_lt_of_cell? _ _ (hHeld.2 j u hj))).trans (hHeld.2 j u hj)
    clear hb hbox
    refine hK.out _ _ ⟨hH0, hH1⟩ (fun hHeld => ?_)
    clear hK K hH0 hH1
    refine norm_ (a' := ?_) ?_ ?_
    rotate_left
    · show Act.put _ (some 7) _ = _
      simp only [Act.put, List.setIfInBounds_toArray, List.set_cons_zero, List.set_cons_succ, i64_w, i32_w]
      rfl
    refine one_ (i := 13) (N := none) #[true, true, true, true, true, true, true, true, true, true, true, true, true, true] rfl rfl (one_of HT_.out (by kernel_rfl)) (by decide) (fun K hK => ?_)
    obtain ⟨w6, hw6⟩ : ∃ w6 : World, w6 = w5.setRow gx cx.toArray := ⟨_, rfl⟩
    refine skip_ (w1 := w6) (by rfl) rfl (by rw [hw6]; exact store_row rfl rfl rfl BX.out (by rw [List.size_toArray, HCL4.out]; exact size39) (by show (4 : Nat) = cx.toArray.size; rw [List.size_toArray, HCL4.out]) (fun u hu => k39.K_one HKX.out u hu)) ?_
    have n0_ : Aside0 (w6.heap[gx]? = some (.cells cx.toArray 39 (0, 0))) := ⟨by rw [hw6]; exact set_row_at BX.out⟩
    have n1_ : Aside0 (Below wo.heap.size wo w6) := ⟨by rw [hw6]; exact set_row_below _ HBR.out GX.out⟩
    have hH0 := (n1_.out.cell (World.block_lt_of_cell? _ _ hz0)).trans hz0
    have hH1 : ∀ j u, cx[j]? = some u → w6.cell? ((ad.add (J.toNat * 4)).add j) = some u := fun j u hj => (n1_.out.cell (World.block_lt_of_cell? _ _ (HCX.out j u hj))).trans (HCX.out j u hj)
    refine hK.out _ _ ⟨hH0, hH1⟩ (fun hHeld => ?_)
    clear hK K hH0 hH1 BX HBR hw6
    have BX := n0_
    have HBR := n1_
    clear n0_ n1_ hHeld
    refine done_ (done_of HT_.out (by kernel_rfl)) ?_
    have HXJ : Aside0 (l0.getD J.toNat z39 = rd_T39 l0 J) := ⟨rfl⟩
    generalize hx : l0.getD J.toNat z39 = x at HKX HXJ
    obtain ⟨A1, c1, A3, c3, ecx, hl1, hg1, hl3, hg3⟩ := k39_open HKX.out
    subst ecx
    have HL1 := Aside0.mk hl1
    have HI1 := Aside0.mk hg1
    have HI3 := Aside0.mk hg3
    clear hl1 hg1 hl3 hg3 hx
    have hx0 : w6.cell? ⟨gx, 0, none⟩ = some (.string x.f0.f0) := (blk_cell BX.out 0).trans rfl
    have hx1 : w6.cell? ⟨gx, 1, none⟩ = some (.slice A1 x.f0.f1.length c1) := (blk_cell BX.out 1).trans rfl
    have hx2 : w6.cell? ⟨gx, 2, none⟩ = some (.int .i64 x.f1) := (blk_cell BX.out 2).trans rfl
    have HB3 := Aside0.mk (Below.refl w6.heap.size w6)
    go_wp2_with (first
      | ((with_reducible refine gate_dst (N := 8) rfl ?_); refine box_event ?hg (N := 8) ?hd (cs := #[.string ⟨#[]⟩, .slice none 0 0, .int .i64 0, .slice none 0 0]) (t := 39) ?hr ?_; (case hd => rfl); (case hg => rfl); (case hr => first | (go_simp; done) | (go_simp; rfl)); intro gy hg w7 hbox hb; have BY := Aside0.mk hbox; have n2_ := Aside0.mk (below_step HB3.out hb); have GY : Aside0 (w6.heap.size ≤ gy) := ⟨by rw [hg]; exact HB3.out.size⟩; clear HB3; have HB3 := n2_; clear n2_ hb hg hbox)
      | ((with_reducible refine gate_store (t := 39) (p := 8) rfl ?_); refine store_event (t := 39) (p := 8) (v := ?vo2_) (w1 := w7.setRow gy #[.string x.f0.f0, .slice A1 x.f0.f1.length c1, .int .i64 x.f1, .slice none 0 0]) ?hg ?ho ?hn ?hr ?_; (case ho => rfl); (case hg => rfl); (case hn => rfl); (case hr => exact store_row rfl rfl rfl BY.out size39 rfl (by simp [Value.oneCell'])); intro w8 hw; have n0_ : Aside0 (w8.heap[gy]? = some (.cells #[.string x.f0.f0, .slice A1 x.f0.f1.length c1, .int .i64 x.f1, .slice none 0 0] 39 (0, 0))) := ⟨by rw [hw]; exact set_row_at BY.out⟩; have n1_ : Aside0 (Below w6.heap.size w6 w8) := ⟨by rw [hw]; exact set_row_below _ HB3.out GY.out⟩; clear hw; clear BY HB3; have BY := n0_; have HB3 := n1_; clear n0_ n1_; clear hx0 hx1 hx2; have BX8 := Aside0.mk (blk_below BX.out HB3.out); have hx3 : w8.cell? ⟨gx, 3, none⟩ = some (.slice A3 x.f2.length c3) := (blk_cell BX8.out 3).trans rfl))
    go_wp2
    repeat (go_quiet (fail); try go_wp2)
    have HBI := Aside0.mk (below_step HBR.out HB3.out)
    have GYO : Aside0 (wo.heap.size ≤ gy) := ⟨Nat.le_trans HBR.out.size GY.out⟩
    have NXY : Aside0 (gx < gy) := ⟨Nat.lt_of_lt_of_le (blk_lt BX.out) GY.out⟩
    clear hx3 BX HB3 HBR
    go_loopg [51] x.f2.length (fun kq v51 w' => ∃ (m : Nat) (vb : Value) (lits : List (List Value)), v51 = .int .i64 (m : Int) ∧ Aside0 (m ≤ x.f2.length) ∧ Aside0 (x.f2.length - m ≤ kq) ∧ Aside0 (Below wo.heap.size wo w') ∧ Aside0 (w'.heap[gx]? = some (.cells #[.string x.f0.f0, .slice A1 x.f0.f1.length c1, .int .i64 x.f1, .slice A3 x.f2.length c3] 39 (0, 0))) ∧ Aside0 (w'.heap[gy]? = some (.cells #[.string x.f0.f0, .slice A1 x.f0.f1.length c1, .int .i64 x.f1, vb] 39 (0, 0))) ∧ Aside0 (Kd.R kL 46 w' wo.heap.size (fun _ => True) vb lits) ∧ Aside0 (Al (fun x c => k46.K w x c) (x.f2.reverse.take m) lits))
    case atStart => exact ⟨0, .slice none 0 0, [], rfl, ⟨Nat.zero_le _⟩, ⟨Nat.le_refl _⟩, HBI, BX8, BY, ⟨Kd.R_nil _ _ _ _ _⟩, ⟨Al.nil⟩⟩
    case round =>
      clear HBI BX8 BY
      obtain ⟨m, vb, lits, rfl, HM, HKm, HBR, BX, BY, HOb, HAb⟩ := hrel
      have BPm := Aside0.mk (blk_below BP.out HBR.out)
      have hxr : x ∈ l0 := by rw [HXJ.out]; unfold rd_T39; rw [List.getD_eq_getElem?_getD, List.getElem?_eq_getElem (by omega)]; exact List.getElem_mem _
      have HBD : Aside0 (x.f2.length ≤ 100000) := ⟨HG.out.2.2.2 _ hxr⟩
      by_cases hmt : m < x.f2.length
      case neg =>
        have HME : Aside0 (m = x.f2.length) := ⟨by have := HM.out; omega⟩
        have BQm := Aside0.mk (blk_below BQ.out HBR.out)
        have hzq : wr.cell? ⟨gq, 0, none⟩ = some vq := (blk_cell BQm.out 0).trans rfl
        have hfq := blk_frozen BQm.out 0
        have HNT : Aside0 ((turnR l0 b)[n]? = some (revR x)) := ⟨by
          unfold turnR
          rw [List.getElem?_map, turnS_at l0 b.toNat n hlt, show (n + b.toNat) % l0.length = J.toNat by have h1 := HG.out.1; rw [HJ.out]; rw [show ((n : Int) + b) % (l0.length : Int) = (((n + b.toNat) % l0.length : Nat) : Int) by rw [Int.natCast_emod, Int.natCast_add, Int.toNat_of_nonneg h1]]; rfl, HXJ.out]
          unfold rd_T39
          rw [List.getD_eq_getElem?_getD, List.getElem?_eq_getElem (by omega)]
          rfl⟩
        obtain ⟨row, hrow⟩ : ∃ row : List Value × List (List Value), row = ([.string x.f0.f0, .slice A1 x.f0.f1.length c1, .int .i64 x.f1], lits) := ⟨_, rfl⟩
        have HRW := Aside0.mk hrow
        obtain ⟨L, hL⟩ : ∃ L, L = rows ++ [row] := ⟨_, rfl⟩
        have HL := Aside0.mk hL
        have HLN := Aside0.mk hlt
        have HLQ : Aside0 ((rows.length + 1) * 72 ≤ 140737488355328) := ⟨by have h1 := HAL.out.1; rw [List.length_take] at h1; have h2 := HG.out.2.2.1; omega⟩
        have HPM : Aside0 (kR.M wr w.heap.size (fun k_ => wo.heap.size ≤ k_) row [.string x.f0.f0, .slice A1 x.f0.f1.length c1, .int .i64 x.f1, vb]) := ⟨by rw [HRW.out]; exact ⟨[.string x.f0.f0, .slice A1 x.f0.f1.length c1, .int .i64 x.f1], [vb], rfl, ⟨rfl, rfl, by simp [Value.oneCell']⟩, ⟨vb, rfl, Kd.R_lower (Kd.R_mono (Kd.R_bound HOb.out) (fun k_ hk_ => hk_.2.1)) HB.out.size⟩⟩⟩
        have HNP := Aside0.mk (Kd.R_ne HO.out BP.out (by decide))
        have HNQ := Aside0.mk (Kd.R_ne HO.out BQ.out (by decide))
        clear hrow hL
        go_wp2_with (first
          | ((with_reducible refine gate_dst (N := 72) rfl ?_); refine Kd.event_run rfl (load_cells (c := [.string x.f0.f0, .slice A1 x.f0.f1.length c1, .int .i64 x.f1, vb]) rfl rfl agg39 sz39 (box_cells BY.out)) ?_)
          | ((with_reducible refine gate_dst (N := 73) rfl ?_); refine Kd.event_run rfl (build39 rfl rfl) ?_)
          | ((with_reducible refine gate_builtin (b := .append) (xs := #[.tmp 71, .tmp 73]) rfl ?_); at_builtin; refine Kd.R_append kR (w0 := w) w.heap.size rfl (.tmp 71) (.tmp 73) 22 39 (.agg #[.string ⟨#[]⟩, .slice none 0 0, .int .i64 0, .slice none 0 0]) 72 rfl Try.underlying22 info39 rfl (by decide) (by omega) vq rows row [.string x.f0.f0, .slice A1 x.f0.f1.length c1, .int .i64 x.f1, vb] (fun _ => True) (fun k_ => wo.heap.size ≤ k_) rfl rfl HPM.out (fun k_ hk_ => ⟨trivial, fun e_ => by have h_ := Kd.R_lt HO.out k_ e_.symm; omega⟩) (fun _ _ => trivial) (Kd.R_below HO.out HBR.out) (below_step HB.out HBR.out) (Nat.le_trans HB.out.size HBR.out.size) HLQ.out ?_; intro v1 w9 ho hb hg hat; rw [← HL.out] at ho; obtain ⟨Ao, co, eo⟩ := Kd.R_slice ho; subst eo; have F1 := Aside0.mk hb; have F2 := Aside0.mk (blk_grown BQm.out hg HNQ.out); have F4 := Aside0.mk (blk_grown BPm.out hg HNP.out); have F3 := Aside0.mk ho; clear ho hb hg hat hzq hfq; have hzq : w9.cell? ⟨gq, 0, none⟩ = some vq := (blk_cell F2.out 0).trans rfl; have hfq := blk_frozen F2.out 0))
        go_roundg (l0.length - (n + 1))
        case measure => have := HK.out; have := HLN.out; omega
        case rel => exact ⟨n + 1, .slice Ao L.length co, L, by have h := HLN.out; have h2 := HG.out.2.2.1; simp; unfold wrap64; omega, ⟨HLN.out⟩, ⟨Nat.le_refl _⟩, ⟨below_set F1.out GQ.out⟩, ⟨blk_far (p := ⟨gq, 0, none⟩) F4.out (by have := PQ.out; show gp ≠ gq; omega) _⟩, ⟨blk_put (cs := #[vq, .string a, .slice A2 l2.length c2]) F2.out 0 (.slice Ao L.length co) rfl⟩, ⟨Kd.R_mono (Kd.R_far (p := ⟨gq, 0, none⟩) (Kd.R_types F3.out F2.out (by decide)) (fun _ hk => hk.2) (.slice Ao L.length co)) (fun _ _ => trivial)⟩, ⟨by rw [take_snoc HNT.out, HL.out]; refine HAL.out.snoc ?_; rw [HRW.out]; exact ⟨⟨A1, c1, rfl, HL1.out, HI1.out⟩, by have h_ := HAb.out; rw [HME.out, List.take_of_length_le (by rw [List.length_reverse]; omega)] at h_; exact h_⟩⟩⟩
      have HMT := Aside0.mk hmt
      have hm0 : (0 : Int) ≤ (m : Int) := by omega
      have hm1 : (m : Int) < (x.f2.length : Int) := by omega
      obtain ⟨I, hI⟩ : ∃ I : Int, I = (x.f2.length : Int) - 1 - m := ⟨_, rfl⟩
      have hI0 : 0 ≤ I := by omega
      have hI1 : I < (x.f2.length : Int) := by omega
      have hIt : wrap64 (wrap64 ((x.f2.length : Int) - 1) - (m : Int)) = I := by have h_ := HBD.out; unfold wrap64; omega
      obtain ⟨ad2, c, ea2, hcl, hK, hc⟩ := Kd.C_get HI3.out z46 I hI0 hI1
      subst ea2
      have HXM : Aside0 (x.f2[x.f2.length - 1 - m]? = some (x.f2.getD I.toNat z46)) := ⟨by rw [List.getD_eq_getElem?_getD, show I.toNat = x.f2.length - 1 - m by omega, List.getElem?_eq_getElem (by omega)]; rfl⟩
      generalize hy : x.f2.getD I.toNat z46 = y at hK HXM
      obtain ⟨q1, q2, q3, q4⟩ := plain_cells hK
      have HCL := Aside0.mk q1
      have HC1 := Aside0.mk q2
      have HKC := Aside0.mk hK
      have HCC : Aside0 (∀ j u, c[j]? = some u → wr.cell? ((ad2.add (I.toNat * 17)).add j) = some u) := ⟨fun j u hj => by
        have h := hc j u hj
        rw [add_add]
        exact ((below_step HB.out HBR.out).cell (World.block_lt_of_cell? w _ h)).trans h⟩
      have HCW : Aside0 (∀ j u, c[j]? = some u → w.cell? ((ad2.add (I.toNat * 17)).add j) = some u) := ⟨fun j u hj => by rw [add_add]; exact hc j u hj⟩
      have HLL : Aside0 ((lits.length + 1) * 232 ≤ 140737488355328) := ⟨by have h1 := HAb.out.1; rw [List.length_take] at h1; have h3 := HBD.out; omega⟩
      have HNY := Aside0.mk (Kd.R_ne HOb.out BY.out (by decide))
      have HNX := Aside0.mk (Kd.R_ne HOb.out BX.out (by decide))
      have hzx : wr.cell? ⟨gx, 3, none⟩ = some (.slice (some ad2) x.f2.length c3) := (blk_cell BX.out 3).trans rfl
      have hzy : wr.cell? ⟨gy, 3, none⟩ = some vb := (blk_cell BY.out 3).trans rfl
      obtain ⟨L, hL⟩ : ∃ L, L = lits ++ [c] := ⟨_, rfl⟩
      have HL := Aside0.mk hL
      clear hL q1 q2 q3 q4 hK hc hcl hy hI
      go_wp2
      repeat (go_quiet (fail); try go_wp2)
      refine start_ (n := 16) (S := fun w' => w'.cell? ⟨gy, 3, none⟩ = some vb ∧ w'.cell? ⟨gx, 3, none⟩ = some (.slice (some ad2) x.f2.length c3) ∧ ∀ j u, c[j]? = some u → w'.cell? ((ad2.add (I.toNat * 17)).add j) = some u) (ds := [15]) #[false, false, false, false, false, false, false, false, false, false, false, false, false, false, false, false] (by kernel_rfl) rfl rfl ⟨hzy, hzx, HCC.out⟩ (fun hHeld => ?_)
      refine with_tabW antecedentlaw13_StrataOrder.tab12 antecedentlaw13_StrataOrder.bits12 (fun HT_ HW_ => ?_)
      have HB2 := Aside0.mk (below_drew (Below.refl wr.heap.size wr))
      generalize wr.drew = wd at HB2 hHeld ⊢
      refine pure_ (i := 0) (N := (some 54)) (v := ?_) (a' := ?_) #[true, false, false, false, false, false, false, false, false, false, false, false, false, false, false, false] rfl rfl (any_of HT_.out (by kernel_rfl)) (fun _ _ _ h => h) (Or.inl ⟨by rfl, ?_⟩) ?_ ?_
      rotate_left
      · intro w'; go_simp; with_reducible rfl
      rotate_left
      · (simp only [Act.put, List.setIfInBounds_toArray, List.set_cons_zero, List.set_cons_succ, i64_w, i32_w]; rfl)
      refine pure_ (i := 2) (N := (some 56)) (v := ?_) (a' := ?_) #[true, false, true, false, false, false, false, false, false, false, false, false, false, false, false, false] rfl rfl (any_of HT_.out (by kernel_rfl)) (fun _ _ _ h => h) (Or.inl ⟨by rfl, ?_⟩) ?_ ?_
      rotate_left
      · intro w'; go_simp; with_reducible rfl
      rotate_left
      · (simp only [Act.put, List.setIfInBounds_toArray, List.set_cons_zero, List.set_cons_succ, i64_w, i32_w]; rfl)
      refine pure_ (i := 4) (N := (some 58)) (v := ?_) (a' := ?_) #[true, false, true, false, true, false, false, false, false, false, false, false, false, false, false, false] rfl rfl (any_of HT_.out (by kernel_rfl)) (fun _ _ _ h => h) (Or.inl ⟨by rfl, ?_⟩) ?_ ?_
      rotate_left
      · intro w'; go_simp; with_reducible rfl
      rotate_left
      · (simp only [Act.put, List.setIfInBounds_toArray, List.set_cons_zero, List.set_cons_succ, i64_w, i32_w]; rfl)
      refine pure_ (i := 8) (N := (some 62)) (v := ?_) (a' := ?_) #[true, false, true, false, true, false, false, false, true, false, false, false, false, false, false, false] rfl rfl (any_of HT_.out (by kernel_rfl)) (fun _ _ _ h => h) (Or.inl ⟨by rfl, ?_⟩) ?_ ?_
      rotate_left
      · intro w'; go_simp; with_reducible rfl
      rotate_left
      · (simp only [Act.put, List.setIfInBounds_toArray, List.set_cons_zero, List.set_cons_succ, i64_w, i32_w]; rfl)
      refine take_ (i := 1) (N := (some 55)) (v := ?_) (a' := ?_) #[true, true, true, false, true, false, false, false, true, false, false, false, false, false, false, false] rfl rfl (take_ofW HT_.out HW_.out (by kernel_rfl)) (fun _ _ _ h => h) (Or.inl ⟨by rfl, ?_⟩) hHeld ?_ ?_
      rotate_left
      · rintro w' hS_; obtain ⟨s0, s1, s2⟩ := hS_; go_simp; with_reducible rfl
      rotate_left
      · (simp only [Act.put, List.setIfInBounds_toArray, List.set_cons_zero, List.set_cons_succ, i64_w, i32_w]; rfl)
      refine take_ (i := 3) (N := (some 57)) (v := ?_) (a' := ?_) #[true, true, true, true, true, false, false, false, true, false, false, false, false, false, false, false] rfl rfl (take_ofW HT_.out HW_.out (by kernel_rfl)) (fun _ _ _ h => h) (Or.inl ⟨by rfl, ?_⟩) hHeld ?_ ?_
      rotate_left
      · rintro w' hS_; obtain ⟨s0, s1, s2⟩ := hS_; go_simp; with_reducible rfl
      rotate_left
      · (simp only [Act.put, List.setIfInBounds_toArray, List.set_cons_zero, List.set_cons_succ, i64_w, i32_w]; rfl)
      refine take_ (i := 5) (N := (some 59)) (v := ?_) (a' := ?_) #[true, true, true, true, true, true, false, false, true, false, false, false, false, false, false, false] rfl rfl (take_ofW HT_.out HW_.out (by kernel_rfl)) (fun _ _ _ h => h) (Or.inl ⟨by rfl, ?_⟩) hHeld ?_ ?_
      rotate_left
      · rintro w' hS_; obtain ⟨s0, s1, s2⟩ := hS_; go_simp; with_reducible rfl
      rotate_left
      · (simp only [Act.put, List.setIfInBounds_toArray, List.set_cons_zero, List.set_cons_succ, i64_w, i32_w]; rfl)
      refine pure_ (i := 6) (N := (some 60)) (v := ?_) (a' := ?_) #[true, true, true, true, true, true, true, false, true, false, false, false, false, false, false, false] rfl rfl (any_of HT_.out (by kernel_rfl)) (fun _ _ _ h => h) (Or.inl ⟨by rfl, ?_⟩) ?_ ?_
      rotate_left
      · intro w'; go_simp; with_reducible rfl
      rotate_left
      · (simp only [Act.put, List.setIfInBounds_toArray, List.set_cons_zero, List.set_cons_succ, i64_w, i32_w]; rfl)
      refine pure_ (i := 7) (N := (some 61)) (v := ?_) (a' := ?_) #[true, true, true, true, true, true, true, true, true, false, false, false, false, false, false, false] rfl rfl (any_of HT_.out (by kernel_rfl)) (fun _ _ _ h => h) (Or.inl ⟨by rfl, ?_⟩) ?_ ?_
      rotate_left
      · intro w'; go_simp; with_reducible rfl
      rotate_left
      · (simp only [Act.put, List.setIfInBounds_toArray, List.set_cons_zero, List.set_cons_succ, i64_w, i32_w]; rfl)
      refine pure_ (i := 9) (N := (some 63)) (v := ?_) (a' := ?_) #[true, true, true, true, true, true, true, true, true, true, false, false, false, false, false, false] rfl rfl (any_of HT_.out (by kernel_rfl)) (fun _ _ _ h => h) (Or.inl ⟨by rfl, ?_⟩) ?_ ?_
      rotate_left
      · intro w'; go_simp; with_reducible rfl
      rotate_left
      · (simp only [Act.put, List.setIfInBounds_toArray, List.set_cons_zero, List.set_cons_succ, i64_w, i32_w]; rfl)
      refine take_ (i := 10) (N := (some 64)) (v := ?_) (a' := ?_) #[true, true, true, true, true, true, true, true, true, true, true, false, false, false, false, false] rfl rfl (take_ofW HT_.out HW_.out (by kernel_rfl)) (fun _ _ _ h => h) (Or.inl ⟨by rfl, ?_⟩) hHeld ?_ ?_
      rotate_left
      · rintro w' hS_; obtain ⟨s0, s1, s2⟩ := hS_; go_simp; with_reducible rfl
      rotate_left
      · (simp only [Act.put, List.setIfInBounds_toArray, List.set_cons_zero, List.set_cons_succ, i64_w, i32_w]; rfl)
      refine take_ (i := 11) (N := (some 65)) (v := ?_) (a' := ?_) #[true, true, true, true, true, true, true, true, true, true, true, true, false, false, false, false] rfl rfl (take_ofW HT_.out HW_.out (by kernel_rfl)) (fun _ _ _ h => h) (Or.inl ⟨by rfl, ?_⟩) hHeld ?_ ?_
      rotate_left
      · rintro w' hS_; refine Eq.trans (load_cells (c := c) rfl rfl (Try.isAgg46 _) (by rw [HCL.out]; exact Try.sizeOf46 _) hS_.2.2) ?_; with_reducible rfl
      rotate_left
      · (simp only [Act.put, List.setIfInBounds_toArray, List.set_cons_zero, List.set_cons_succ, i64_w, i32_w]; rfl)
      refine one_ (i := 12) (N := (some 66)) #[true, true, true, true, true, true, true, true, true, true, true, true, true, false, false, false] rfl rfl (one_of HT_.out (by kernel_rfl)) (by decide) (fun K hK => ?_)
      refine event_step (by rfl) (build46 rfl rfl HCL.out) ?_
      have hb := below_alloc (Below.refl wd.heap.size wd) (.cells c.toArray 46 (0, 0))
      have hH0 := (hb.cell (World.block_lt_of_cell? _ _ hHeld.1)).trans hHeld.1
      have hH1 := (hb.cell (World.block_lt_of_cell? _ _ hHeld.2.1)).trans hHeld.2.1
      have hH2 : ∀ j u, c[j]? = some u → (wd.alloc (.cells c.toArray 46 (0, 0))).cell? ((ad2.add (I.toNat * 17)).add j) = some u := fun j u hj => (hb.cell (World.block_lt_of_cell? _ _ (hHeld.2.2 j u hj))).trans (hHeld.2.2 j u hj)
      refine hK.out _ _ ⟨hH0, hH1, hH2⟩ (fun hHeld => ?_)
      clear hK K hH0 hH1 hH2 hb
      refine norm_ (a' := ?_) ?_ ?_
      rotate_left
      · show Act.put _ (some 66) _ = _
        simp only [Act.put, List.setIfInBounds_toArray, List.set_cons_zero, List.set_cons_succ, i64_w, i32_w]
        rfl
      refine one_ (i := 13) (N := (some 67)) #[true, true, true, true, true, true, true, true, true, true, true, true, true, true, false, false] rfl rfl (one_of HT_.out (by kernel_rfl)) (by decide) (fun K hK => ?_)
      refine Kd.R_append_step kL (w0 := wo) wo.heap.size (by rfl) (.tmp 55) (.tmp 66) 37 46 (.agg zs46) 232 rfl Try.underlying37 info46 rfl (by decide) (by omega) vb lits c c (fun _ => True) (fun _ => False) (by rfl) (by rfl) ⟨rfl, HCL.out, HC1.out⟩ (fun _ hk => hk.elim) (fun _ _ => trivial) (Kd.R_below HOb.out HB2.out) (below_step HBR.out HB2.out) (Nat.le_trans HBR.out.size HB2.out.size) HLL.out ?_
      intro v1 w9 ho hb hg hat
      rw [← HL.out] at ho
      obtain ⟨Ao, co, eo⟩ := Kd.R_slice ho
      subst eo
      have F1 := Aside0.mk hb
      have F2 := Aside0.mk (blk_grown (blk_below BY.out HB2.out) hg HNY.out)
      have F5 := Aside0.mk (blk_grown (blk_below BX.out HB2.out) hg HNX.out)
      have F3 := Aside0.mk ho
      clear ho hb hg hat hHeld
      have hH0 : w9.cell? ⟨gy, 3, none⟩ = some vb := (blk_cell F2.out 3).trans rfl
      have hH1 : w9.cell? ⟨gx, 3, none⟩ = some (.slice (some ad2) x.f2.length c3) := (blk_cell F5.out 3).trans rfl
      have hH2 : ∀ j u, c[j]? = some u → w9.cell? ((ad2.add (I.toNat * 17)).add j) = some u := fun j u hj => ((below_step HB.out F1.out).cell (World.block_lt_of_cell? _ _ (HCW.out j u hj))).trans (HCW.out j u hj)
      refine hK.out _ _ ⟨hH0, hH1, hH2⟩ (fun hHeld => ?_)
      clear hK K hH0 hH1 hH2
      refine norm_ (a' := ?_) ?_ ?_
      rotate_left
      · show Act.put _ (some 67) _ = _
        simp only [Act.put, List.setIfInBounds_toArray, List.set_cons_zero, List.set_cons_succ, i64_w, i32_w]
        rfl
      refine pure_ (i := 14) (N := (some 68)) (v := ?_) (a' := ?_) #[true, true, true, true, true, true, true, true, true, true, true, true, true, true, true, false] rfl rfl (any_of HT_.out (by kernel_rfl)) (fun _ _ _ h => h) (Or.inl ⟨by rfl, ?_⟩) ?_ ?_
      rotate_left
      · intro w'; go_simp; with_reducible rfl
      rotate_left
      · (simp only [Act.put, List.setIfInBounds_toArray, List.set_cons_zero, List.set_cons_succ, i64_w, i32_w]; rfl)
      refine last_ (i := 15) (N := none) #[true, true, true, true, true, true, true, true, true, true, true, true, true, true, true, true] rfl rfl (one_of HT_.out (by kernel_rfl)) (by decide) (fun K hK => ?_)
      refine skip_ (w1 := w9.setCell ⟨gy, 3, none⟩ (.slice Ao L.length co)) (by rfl) rfl (by have hfy := blk_frozen F2.out 3; have hzy9 := hHeld.1; go_simp) ?_
      refine hK.out _ _ ?_
      clear hK K hHeld
      refine done_ (done_of HT_.out (by kernel_rfl)) ?_
      go_wp2
      repeat (go_quiet (fail); try go_wp2)
      go_roundg (x.f2.length - (m + 1))
      case measure => have := HKm.out; have := HMT.out; omega
      case rel => exact ⟨m + 1, .slice Ao L.length co, L, by have h := HMT.out; have h2 := HBD.out; simp; unfold wrap64; omega, ⟨HMT.out⟩, ⟨Nat.le_refl _⟩, ⟨below_set F1.out GYO.out⟩, ⟨blk_far (p := ⟨gy, 3, none⟩) F5.out (by have := NXY.out; show gx ≠ gy; omega) _⟩, ⟨blk_put (cs := #[.string x.f0.f0, .slice A1 x.f0.f1.length c1, .int .i64 x.f1, vb]) F2.out 3 (.slice Ao L.length co) rfl⟩, ⟨Kd.R_mono (Kd.R_far (p := ⟨gy, 3, none⟩) (Kd.R_types F3.out F2.out (by decide)) (fun _ hk => hk.2) (.slice Ao L.length co)) (fun _ _ => trivial)⟩, ⟨by rw [rev_take HXM.out HMT.out, HL.out]; exact HAb.out.snoc HKC.out⟩⟩
end Go.Proofs.Ytfkilcegdajdcaa.PZ
