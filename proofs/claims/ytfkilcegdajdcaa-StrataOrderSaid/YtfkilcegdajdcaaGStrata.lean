
/- strata.Strata (the walk is the printed one, turned where the map is made, filled and asked, and where each is called with a function value). -/
import Derived.Test.YtfkilcegdajdcaaGNeeds
import Derived.Test.YtfkilcegdajdcaaGStrata1
import Derived.Test.YtfkilcegdajdcaaPZx2
import Derived.Test.YtfkilcegdajdcaaPZx3
namespace Go.Proofs.Ytfkilcegdajdcaa.PZ
open Go.RowKit Go.Proofs.YtfkilcegdajdcaaW.PrintWords Go.Proofs.YtfkilcegdajdcaaW.PrintLast Go.Proofs.YtfkilcegdajdcaaW.PrintMore
attribute [local go_sem] max2_int min2_int max_two min_two max_three min_three max_four min_four   -- for this text's walks alone
set_option linter.unusedVariables false
set_option linter.unusedSimpArgs false
def szN (o : Option (List ByteArray)) : Option (List ByteArray) := o.bind fun l => if (l.all fun s => decide (s.size ≤ 9223372036854775807)) = true then some l else none
def wfI (o : Option (List Int)) : Option (List Int) := o.bind fun l => if (l.all fun x => (Lit.int .i64 x).wf) = true then some l else none
theorem szN_mono {a b : Option (List ByteArray)} (h : LeO a b) : LeO (szN a) (szN b) := LeO.bind h (fun _ => LeO.refl _)
theorem wfI_mono {a b : Option (List Int)} (h : LeO a b) : LeO (wfI a) (wfI b) := LeO.bind h (fun _ => LeO.refl _)
theorem szN_some {o : Option (List ByteArray)} {l : List ByteArray} (h : szN o = some l) : o = some l ∧ ∀ s ∈ l, s.size ≤ maxLen := by
 obtain ⟨l', h1, h⟩ := Option.bind_eq_some_iff.1 h
 by_cases hq : (l'.all fun s => decide (s.size ≤ 9223372036854775807)) = true
 case neg => rw [if_neg hq] at h; cases h
 rw [if_pos hq] at h
 obtain rfl := Option.some.inj h
 exact ⟨h1, fun s hs => of_decide_eq_true (List.all_eq_true.1 hq s hs)⟩
theorem wfI_some {o : Option (List Int)} {l : List Int} (h : wfI o = some l) : o = some l ∧ ∀ x ∈ l, (Lit.int .i64 x).wf = true := by
 obtain ⟨l', h1, h⟩ := Option.bind_eq_some_iff.1 h
 by_cases hq : (l'.all fun x => (Lit.int .i64 x).wf) = true
 case neg => rw [if_neg hq] at h; cases h
 rw [if_pos hq] at h
 obtain rfl := Option.some.inj h
 exact ⟨h1, fun x hx => List.all_eq_true.1 hq x hx⟩
theorem szN_at {l : List ByteArray} (h : ∀ s ∈ l, s.size ≤ maxLen) (i : Int) : (rdOf ByteArray.empty l i).size ≤ maxLen := by
 unfold rdOf
 rw [List.getD_eq_getElem?_getD]
 by_cases hi : i.toNat < l.length
 case neg => rw [List.getElem?_eq_none (by omega)]; exact Nat.zero_le _
 rw [List.getElem?_eq_getElem hi]; exact h _ (List.getElem_mem hi)
theorem wfI_at {l : List Int} (h : ∀ x ∈ l, (Lit.int .i64 x).wf = true) (i : Int) : (Lit.int .i64 (rd l i)).wf = true := by
 unfold rd
 rw [List.getD_eq_getElem?_getD]
 by_cases hi : i.toNat < l.length
 case neg => rw [List.getElem?_eq_none (by omega)]; decide
 rw [List.getElem?_eq_getElem hi]; exact h _ (List.getElem_mem hi)
theorem lt_maxLen {n m : Nat} (h : m ≤ 9223372036854775807) (hn : n < m) : n < maxLen := Nat.lt_of_lt_of_le hn h
theorem map_made {o : Oper} {ev : Operand → Value} {W : World} (ho : o.op = .makeMap 58 none) : (execOp ev o).run Try.prog W = .ok (.value (.map (some W.heap.size))) (W.alloc (.map #[] 0)) := by
 unfold execOp
 rw [ho]
 rfl
section
variable {P : Program} {ops : Array Oper} {rest : List Oper} {o : Oper} {a : Act} {Q : Exit → Act → World → Prop}
theorem map_event {W : World} (hgd : o.guard = none) {N : Tmp} (_hd : o.dst = some N) (hrun : (execOp a.eval o).run P W = .ok (.value (.map (some W.heap.size))) (W.alloc (.map #[] 0)))
    (h : ∀ g, g = W.heap.size → ∀ w1, w1.heap[g]? = some (.map #[] 0) → Below W.heap.size W w1 → wpList P ops Q rest (a.put o.dst (.map (some g))) w1) : wpList P ops Q (o :: rest) a W :=
  Kd.event_run hgd hrun (h _ rfl _ (by show (W.heap.push _)[W.heap.size]? = _; simp) (below_alloc (Below.refl _ _) _))
end
theorem MapAt.start {names : List ByteArray} {of : List Int} {b : Nat} {W : World} (h : W.heap[b]? = some (.map #[] 0)) : MapAt names of b 0 W := by
 obtain ⟨D, ⟨es, clock, h1, F, hs, hD⟩, hm, ha⟩ := MapAt.new (names := names) (of := of) W
 have h2 : (W.alloc (.map #[] 0)).heap[W.heap.size]? = some (.map #[] 0) := by show (W.heap.push _)[W.heap.size]? = _; simp
 rw [h2] at h1
 exact ⟨D, ⟨es, clock, h.trans h1, F, hs, hD⟩, hm, ha⟩
theorem Kd.R_nomap {α : Type} {d : Kd α} {e base b n : Nat} {ok : Nat → Prop} {v : Value} {xs : List α} {W : World} {names : List ByteArray} {of : List Int} (h : d.R e W base ok v xs) (hm : MapAt names of b n W) : d.R e W base (fun k => ok k ∧ k ≠ b) v xs :=
  Kd.R_mono (Kd.R_bound h) (fun k hk => ⟨hk.1, by
    obtain ⟨_, _, _, q, _, cells, hc⟩ := hk
    rintro rfl
    obtain ⟨D, ⟨es, clock, hh, _⟩, _⟩ := hm
    rw [hh] at hc
    cases hc⟩)
theorem Kd.R_kept6 {α : Type} {d : Kd α} {e base : Nat} {ok : Nat → Prop} {v : Value} {xs : List α} {W W2 : World} {gw gm gx gb gc gl : Nat} {om : Obj} {a1 a3 a4 a5 a6 : Array Value} (h : d.R e W base ok v xs) (hE : ∀ q, q ∈ e :: d.E → q ≠ 58 ∧ q ≠ 39 ∧ q ≠ 4)
 (hk : Kept W W2 (fun k => k = gw ∨ k = gm ∨ k = gx ∨ k = gb ∨ k = gc ∨ k = gl)) (h1 : W.heap[gw]? = some (.cells a1 58 (0, 0))) (h2 : W.heap[gm]? = some om) (h3 : W.heap[gx]? = some (.cells a3 39 (0, 0))) (h4 : W.heap[gb]? = some (.cells a4 4 (0, 0))) (h5 : W.heap[gc]? = some (.cells a5 4 (0, 0))) (h6 : W.heap[gl]? = some (.cells a6 4 (0, 0))) (hnc : ∀ (cells : Array Value) t f, om ≠ .cells cells t f) : d.R e W2 base ok v xs := by
 refine Kd.R_mono (Kd.R_move (Kd.R_bound h) (fun k hk' => ?_)) (fun _ hk => hk.1)
 obtain ⟨_, _, hlt, q, hq, cells, hc⟩ := hk'
 refine hk.2 k hlt ?_
 obtain ⟨n1, n2, n3⟩ := hE q hq
 rintro (rfl | rfl | rfl | rfl | rfl | rfl)
 ·rw [h1] at hc; injection hc with hc; injection hc with _ hc; exact n1 hc.symm
 ·rw [h2] at hc; exact hnc _ _ _ (Option.some.inj hc)
 ·rw [h3] at hc; injection hc with hc; injection hc with _ hc; exact n2 hc.symm
 ·rw [h4] at hc; injection hc with hc; injection hc with _ hc; exact n3 hc.symm
 ·rw [h5] at hc; injection hc with hc; injection hc with _ hc; exact n3 hc.symm
 ·rw [h6] at hc; injection hc with hc; injection hc with _ hc; exact n3 hc.symm
theorem obj_far {w : World} {g : Nat} {o : Obj} (h : w.heap[g]? = some o) {p : Addr} (hp : g ≠ p.block) (u : Value) : (w.setCell p u).heap[g]? = some o := (Below.heap_setCell w p u g hp).trans h
theorem Kd.R_neO {α : Type} {d : Kd α} {e base g : Nat} {ok : Nat → Prop} {v : Value} {xs : List α} {W : World} {o : Obj} (h : d.R e W base ok v xs) (hb : W.heap[g]? = some o) (hnc : ∀ (cells : Array Value) t f, o ≠ .cells cells t f) : some g ≠ v.ownBlock := fun he => by
  obtain ⟨cells, hc⟩ := Kd.R_typed h g he.symm
  rw [hc] at hb
  exact hnc _ _ _ (Option.some.inj hb).symm
theorem MapAt.obj' {names : List ByteArray} {of : List Int} {b n : Nat} {W : World} (h : MapAt names of b n W) : ∃ o, W.heap[b]? = some o ∧ (∀ W' : World, W'.heap[b]? = some o → MapAt names of b n W') ∧ ∀ (cells : Array Value) t f, o ≠ .cells cells t f := by
 obtain ⟨o, h1, h2⟩ := h.obj
 refine ⟨o, h1, h2, fun cells t f e => ?_⟩
 obtain ⟨D, ⟨es, clock, hh, _⟩, _⟩ := h
 rw [h1, e] at hh
 cases hh
mutual
def strata_Strata.l0 : Nat → List ByteArray → List Int → List ByteArray → Int → Int → List (S39) → ByteArray → List (S43) → Int → Int → Option ((List (List ByteArray)) × Int)
  | 0, _, _, _, _, _, _, _, _, _, _ => none
  | k + 1, x4, x5, x28, x29, x30, x102000, x102001, x102002, x112000, x113000 => if x30 < x29 then (if 0 ≤ x30 then (if x30 < (x28.length : Int) then (if x30 < (x5.length : Int) then (strata_Strata.l0 k x4 x5 x28 x29 (wrap64 (x30 + 1)) x102000 x102001 x102002 (rd x5 x30) x113000) else (none)) else (none)) else (none)) else (strata_Strata.l1 k x4 x5 x102000 (x102000.length : Int) 0 x112000 x113000 false false)
def strata_Strata.l1 : Nat → List ByteArray → List Int → List (S39) → Int → Int → Int → Int → Bool → Bool → Option ((List (List ByteArray)) × Int)
  | 0, _, _, _, _, _, _, _, _, _ => none
  | k + 1, x4, x5, x43, x44, x45, x112000, x113000, x116000, x117000 => if x45 < x44 then (if 0 ≤ x45 then (if x45 < (x43.length : Int) then ((contains_let.f ((rd_T39 x43 x45).f2)).bind fun t119 => ((each_Strata.f k ((rd_T39 x43 x45).f0.f0) ((rd_T39 x43 x45).f0.f1) ((rd_T39 x43 x45).f1) ((rd_T39 x43 x45).f2) x4 x5 x116000 x117000 t119).bind fun bt121 => (strata_Strata.l1 k x4 x5 x43 x44 (wrap64 (x45 + 1)) x112000 x113000 bt121.1 bt121.2))) else (none)) else (none)) else (if x116000 = true then (some (([] : List (List ByteArray)), 8)) else (if x117000 = true then (some (([] : List (List ByteArray)), 9)) else ((comps_Lists.f k x5).bind fun t123 => (strata_Strata.l2 k x4 ([] : List (List ByteArray)) t123 (t123.length : Int) 0))))
def strata_Strata.l2 : Nat → List ByteArray → List (List ByteArray) → List (List Int) → Int → Int → Option ((List (List ByteArray)) × Int)
  | 0, _, _, _, _, _ => none
  | k + 1, x4, x14, x61, x62, x63 => if x63 < x62 then (if 0 ≤ x63 then (if x63 < (x61.length : Int) then (strata_Strata.l3 k x4 x14 ([] : List ByteArray) x61 x62 x63 (rd_L7 x61 x63) ((rd_L7 x61 x63).length : Int) 0) else (none)) else (none)) else (some (x14, 0))
def strata_Strata.l3 : Nat → List ByteArray → List (List ByteArray) → List ByteArray → List (List Int) → Int → Int → List Int → Int → Int → Option ((List (List ByteArray)) × Int)
  | 0, _, _, _, _, _, _, _, _, _ => none
  | k + 1, x4, x14, x17, x61, x62, x63, x67, x68, x69 => if x69 < x68 then (if 0 ≤ x69 then (if x69 < (x67.length : Int) then (if 0 ≤ (rd x67 x69) then (if (rd x67 x69) < (x4.length : Int) then (if x17.length < 8796093022208 then (strata_Strata.l3 k x4 x14 (x17 ++ [rdOf ByteArray.empty x4 (rd x67 x69)]) x61 x62 x63 x67 x68 (wrap64 (x69 + 1))) else (none)) else (none)) else (none)) else (none)) else (none)) else (if x14.length < 5864062014805 then (strata_Strata.l2 k x4 (x14 ++ [x17]) x61 x62 (wrap64 (x63 + 1))) else (none))
end
def strata_Strata.f (k : Nat) (l0_0 : List (S39)) (a0_1 : ByteArray) (l0_2 : List (S43)) : Option ((List (List ByteArray)) × Int) := (szN (strata_Names.f k l0_0 a0_1 l0_2)).bind fun t102 => ((strata_Needs.f k l0_0 a0_1 l0_2).bind fun t105 => ((wfI (comps_Comps.f k (t102.length : Int) t105)).bind fun t108 => (strata_Strata.l0 k t102 t108 t102 (t102.length : Int) 0 l0_0 a0_1 l0_2 0 0)))
theorem strata_Strata.mono_l : ∀ k, (∀ y0 y1 y2 y3 y4 y5 y6 y7 y8 y9, LeO (strata_Strata.l0 k y0 y1 y2 y3 y4 y5 y6 y7 y8 y9) (strata_Strata.l0 (k + 1) y0 y1 y2 y3 y4 y5 y6 y7 y8 y9)) ∧ (∀ y0 y1 y2 y3 y4 y5 y6 y7 y8, LeO (strata_Strata.l1 k y0 y1 y2 y3 y4 y5 y6 y7 y8) (strata_Strata.l1 (k + 1) y0 y1 y2 y3 y4 y5 y6 y7 y8)) ∧ (∀ y0 y1 y2 y3 y4, LeO (strata_Strata.l2 k y0 y1 y2 y3 y4) (strata_Strata.l2 (k + 1) y0 y1 y2 y3 y4)) ∧ (∀ y0 y1 y2 y3 y4 y5 y6 y7 y8, LeO (strata_Strata.l3 k y0 y1 y2 y3 y4 y5 y6 y7 y8) (strata_Strata.l3 (k + 1) y0 y1 y2 y3 y4 y5 y6 y7 y8))
  | 0 => ⟨fun _ _ _ _ _ _ _ _ _ _ r h => by simp [strata_Strata.l0] at h, fun _ _ _ _ _ _ _ _ _ r h => by simp [strata_Strata.l1] at h, fun _ _ _ _ _ r h => by simp [strata_Strata.l2] at h, fun _ _ _ _ _ _ _ _ _ r h => by simp [strata_Strata.l3] at h⟩
  | k + 1 => by
    obtain ⟨ih0, ih1, ih2, ih3⟩ := strata_Strata.mono_l k
    refine ⟨?_, ?_, ?_, ?_⟩
    all_goals
      intros
      first | unfold strata_Strata.l0 | unfold strata_Strata.l1 | unfold strata_Strata.l2 | unfold strata_Strata.l3
      repeat' first
      | (with_reducible exact ih0 _ _ _ _ _ _ _ _ _ _)
      | (with_reducible exact ih1 _ _ _ _ _ _ _ _ _)
      | (with_reducible exact ih2 _ _ _ _ _)
      | (with_reducible exact ih3 _ _ _ _ _ _ _ _ _)
      | (with_reducible exact comps_Comps.mono _ _ _)
      | (with_reducible exact comps_Lists.mono _ _)
      | (with_reducible exact each_Strata.mono _ _ _ _ _ _ _ _ _ _)
      | (with_reducible exact strata_Names.mono _ _ _ _)
      | (with_reducible exact strata_Needs.mono _ _ _ _)
      | (with_reducible refine szN_mono ?_)
      | (with_reducible refine wfI_mono ?_)
      | (with_reducible exact LeO.refl _)
      | (with_reducible exact LeO.none _)
      | (with_reducible refine LeO.ite ?_ ?_)
      | (with_reducible refine LeO.bind ?_ (fun _ => ?_))
theorem strata_Strata.mono : ∀ a0 a1 a2 k, LeO (strata_Strata.f k a0 a1 a2) (strata_Strata.f (k + 1) a0 a1 a2) := by
 intro a0 a1 a2 k
 obtain ⟨ih0, ih1, ih2, ih3⟩ := strata_Strata.mono_l k
 unfold strata_Strata.f
 repeat' first
  | (with_reducible exact ih0 _ _ _ _ _ _ _ _ _ _)
  | (with_reducible exact ih1 _ _ _ _ _ _ _ _ _)
  | (with_reducible exact ih2 _ _ _ _ _)
  | (with_reducible exact ih3 _ _ _ _ _ _ _ _ _)
  | (with_reducible exact comps_Comps.mono _ _ _)
  | (with_reducible exact comps_Lists.mono _ _)
  | (with_reducible exact each_Strata.mono _ _ _ _ _ _ _ _ _ _)
  | (with_reducible exact strata_Names.mono _ _ _ _)
  | (with_reducible exact strata_Needs.mono _ _ _ _)
  | (with_reducible refine szN_mono ?_)
  | (with_reducible refine wfI_mono ?_)
  | (with_reducible exact LeO.refl _)
  | (with_reducible exact LeO.none _)
  | (with_reducible refine LeO.ite ?_ ?_)
  | (with_reducible refine LeO.bind ?_ (fun _ => ?_))
set_option maxHeartbeats 8000000 in
set_option maxRecDepth 100000 in
theorem strata_Strata.calls (k : Nat) (A0_0 : Option Addr) (c0_0 : Nat) (l0_0 : List (S39)) (a0_1 : ByteArray) (A0_2 : Option Addr) (c0_2 : Nat) (l0_2 : List (S43)) (r1 : List (List ByteArray)) (r2 : Int) (w : World) (hr0_0 : Kd.C k39 w A0_0 l0_0.length l0_0) (hc0_0 : l0_0.length ≤ c0_0) (hr0_2 : Kd.C k43 w A0_2 l0_2.length l0_2) (hc0_2 : l0_2.length ≤ c0_2) (h : strata_Strata.f k l0_0 a0_1 l0_2 = some (r1, r2)) :
 Calls Try.prog 10 #[.agg #[.slice A0_0 l0_0.length c0_0, .string a0_1, .slice A0_2 l0_2.length c0_2]] w fun e w' => ∃ v0_ : Value, e = .returned (.tuple #[v0_, .int .i64 r2]) ∧ Kd.S (Kd.slice 9 Kd.string) 34 w' w.heap.size (fun _ => True) v0_ r1 ∧ Below w.heap.size w w' := by
 have hu27 := Try.underlying27
 have hu39 := Try.underlying39
 have HR0_0 := Aside0.mk hr0_0
 have HC0_0 := Aside0.mk hc0_0
 clear hr0_0 hc0_0
 have HR0_2 := Aside0.mk hr0_2
 have HC0_2 := Aside0.mk hc0_2
 clear hr0_2 hc0_2
 have HB := Aside0.mk (Below.refl w.heap.size w)
 have H : ((szN (strata_Names.f k l0_0 a0_1 l0_2)).bind fun t102 => ((strata_Needs.f k l0_0 a0_1 l0_2).bind fun t105 => ((wfI (comps_Comps.f k (t102.length : Int) t105)).bind fun t108 => (strata_Strata.l0 k t102 t108 t102 (t102.length : Int) 0 l0_0 a0_1 l0_2 0 0)))) = some (r1, r2) := h
 clear h
 replace H := Option.bind_eq_some_iff.mp H
 obtain ⟨t102, A20, H⟩ := H
 have SZ := Aside0.mk (szN_some A20).2
 replace A20 := (szN_some A20).1
 have A2 := Aside0.mk A20
 clear A20
 replace H := Option.bind_eq_some_iff.mp H
 obtain ⟨t105, A30, H⟩ := H
 have A3 := Aside0.mk A30
 clear A30
 replace H := Option.bind_eq_some_iff.mp H
 obtain ⟨t108, A40, H⟩ := H
 have WF := Aside0.mk (wfI_some A40).2
 replace A40 := (wfI_some A40).1
 have A4 := Aside0.mk A40
 clear A40
 have H' := Aside0.mk H
 clear H
 have mixed : Try.prog.follows .mixedOrders = true := by kernel_rfl
 go_enter Try.func10, Try.ntmps10
 go_wp2_with (first | ((with_reducible refine gate_dst (N := 1) rfl ?_); refine box_event ?hg (N := 1) ?hd (cs := #[.slice A0_0 l0_0.length c0_0, .string a0_1, .slice A0_2 l0_2.length c0_2]) (t := 27) ?hr ?_; (case hd => rfl); (case hg => rfl); (case hr => first | (go_simp; done) | (go_simp; rfl)); intro gb101 hg w5 hbox hb; have n0_ := Aside0.mk (below_step (by repeat (first | (with_reducible first | exact HB.out | apply below_alloc | apply pw_below_drewN | apply below_drew1) | exact HB.out)) hb); have n1_ := Aside0.mk (hbox); have n2_ := Aside0.mk ((by rw [hg]; exact (below_size (by repeat (first | (with_reducible first | exact HB.out | apply below_alloc | apply pw_below_drewN | apply below_drew1) | exact HB.out))) : w.heap.size ≤ gb101)); have n3_ := Aside0.mk ((by rw [hg]; exact (below_size (by repeat (first | (with_reducible first | exact HB.out | apply below_alloc | apply pw_below_drewN | apply below_drew1) | exact HB.out))) : w.heap.size ≤ gb101)); clear HB; have HB := n0_; have BK101 := n1_; have GW101 := n2_; have GE101 := n3_; clear n0_ n1_ n2_ n3_; clear hb hbox hg; have hcz6_0 : w5.cell? ⟨gb101, 0, none⟩ = some (.slice A0_0 l0_0.length c0_0) := (blk_cell BK101.out 0).trans rfl; have hcz6_1 : w5.cell? ⟨gb101, 1, none⟩ = some (.string a0_1) := (blk_cell BK101.out 1).trans rfl; have hcz6_2 : w5.cell? ⟨gb101, 2, none⟩ = some (.slice A0_2 l0_2.length c0_2) := (blk_cell BK101.out 2).trans rfl; have hfz6_0 := blk_frozen BK101.out 0; have hfz6_1 := blk_frozen BK101.out 1; have hfz6_2 := blk_frozen BK101.out 2) | ((with_reducible refine gate_callee (f := 11) rfl ?_); refine goesL_ (some 21) rfl rfl Try.func11 (by kernel_rfl) rfl #[.agg #[.slice A0_0 l0_0.length c0_0, .string a0_1, .slice A0_2 l0_2.length c0_2]] rfl (by (try simp only [List.map_toArray, List.map_cons, List.map_nil]); first | done | rfl | (simp only [List.length_drop, List.length_take]; rfl)) ?_; (with_reducible refine (strata_Names.calls k _ _ l0_0 a0_1 _ _ l0_2 t102 _ ?side1 ?side2 ?side3 ?side4 A2.out).mono ?_); (case side1 => repeat (first | exact (Kd.C_below HR0_0.out HB.out) | (with_reducible refine Kd.C_alloc ?_ _) | (with_reducible refine Kd.C_drewN ?_ _) | (with_reducible refine Kd.C_drew ?_))); (case side2 => exact HC0_0.out); (case side3 => repeat (first | exact (Kd.C_below HR0_2.out HB.out) | (with_reducible refine Kd.C_alloc ?_ _) | (with_reducible refine Kd.C_drewN ?_ _) | (with_reducible refine Kd.C_drew ?_))); (case side4 => exact HC0_2.out); rintro e w7 ⟨v103, rfl, ho0, hb⟩; refine ⟨_, rfl, ?_⟩; have n0_ := Aside0.mk (Kd.R_lower ho0 (below_size (by repeat (first | (with_reducible first | exact HB.out | apply below_alloc | apply pw_below_drewN | apply below_drew1 | refine below_set ?_ GE101.out) | exact HB.out)))); have n1_ := Aside0.mk (blk_below (g := gb101) (o := .cells #[.slice A0_0 l0_0.length c0_0, .string a0_1, .slice A0_2 l0_2.length c0_2] 27 (0, 0)) (by (with_reducible repeat (first | refine blk_drewN ?_ _ | refine blk_drew ?_ | refine blk_alloc ?_ _)); exact BK101.out) hb); have n2_ := Aside0.mk (below_step (by repeat (first | (with_reducible first | exact HB.out | apply below_alloc | apply pw_below_drewN | apply below_drew1 | refine below_set ?_ GE101.out) | exact HB.out)) hb); clear BK101; clear HB; have HO104 := n0_; have BK101 := n1_; have HB := n2_; clear n0_ n1_ n2_; (try clear hb); (try clear hb2); (try clear hk); (try clear hi); (try clear ho0); obtain ⟨Ao8, co8, eo8⟩ := Kd.R_slice HO104.out; subst eo8; have hcz9_0 : w7.cell? ⟨gb101, 0, none⟩ = some (.slice A0_0 l0_0.length c0_0) := (blk_cell BK101.out 0).trans rfl; have hcz9_1 : w7.cell? ⟨gb101, 1, none⟩ = some (.string a0_1) := (blk_cell BK101.out 1).trans rfl; have hcz9_2 : w7.cell? ⟨gb101, 2, none⟩ = some (.slice A0_2 l0_2.length c0_2) := (blk_cell BK101.out 2).trans rfl; have hfz9_0 := blk_frozen BK101.out 0; have hfz9_1 := blk_frozen BK101.out 1; have hfz9_2 := blk_frozen BK101.out 2) | ((with_reducible refine gate_callee (f := 16) rfl ?_); refine goesL_ (some 25) rfl rfl Try.func16 (by kernel_rfl) rfl #[.agg #[.slice A0_0 l0_0.length c0_0, .string a0_1, .slice A0_2 l0_2.length c0_2]] rfl (by (try simp only [List.map_toArray, List.map_cons, List.map_nil]); first | done | rfl | (simp only [List.length_drop, List.length_take]; rfl)) ?_; (with_reducible refine (strata_Needs.calls k _ _ l0_0 a0_1 _ _ l0_2 t105 _ ?side1 ?side2 ?side3 ?side4 A3.out).mono ?_); (case side1 => repeat (first | exact (Kd.C_below HR0_0.out HB.out) | (with_reducible refine Kd.C_alloc ?_ _) | (with_reducible refine Kd.C_drewN ?_ _) | (with_reducible refine Kd.C_drew ?_))); (case side2 => exact HC0_0.out); (case side3 => repeat (first | exact (Kd.C_below HR0_2.out HB.out) | (with_reducible refine Kd.C_alloc ?_ _) | (with_reducible refine Kd.C_drewN ?_ _) | (with_reducible refine Kd.C_drew ?_))); (case side4 => exact HC0_2.out); rintro e w10 ⟨v106, rfl, ho0, hb⟩; refine ⟨_, rfl, ?_⟩; have n0_ := Aside0.mk (Kd.R_below (by (with_reducible repeat (first | apply Kd.R_alloc | apply Kd.R_drewN | apply Kd.R_drew)); exact HO104.out) hb); have n1_ := Aside0.mk (Kd.R_lower ho0 (below_size (by repeat (first | (with_reducible first | exact HB.out | apply below_alloc | apply pw_below_drewN | apply below_drew1 | refine below_set ?_ GE101.out) | exact HB.out)))); have n2_ := Aside0.mk (blk_below (g := gb101) (o := .cells #[.slice A0_0 l0_0.length c0_0, .string a0_1, .slice A0_2 l0_2.length c0_2] 27 (0, 0)) (by (with_reducible repeat (first | refine blk_drewN ?_ _ | refine blk_drew ?_ | refine blk_alloc ?_ _)); exact BK101.out) hb); have n3_ := Aside0.mk (below_step (by repeat (first | (with_reducible first | exact HB.out | apply below_alloc | apply pw_below_drewN | apply below_drew1 | refine below_set ?_ GE101.out) | exact HB.out)) hb); clear HO104; clear BK101; clear HB; have HO104 := n0_; have HO107 := n1_; have BK101 := n2_; have HB := n3_; clear n0_ n1_ n2_ n3_; (try clear hb); (try clear hb2); (try clear hk); (try clear hi); (try clear ho0); obtain ⟨Ao11, co11, eo11⟩ := Kd.R_slice HO107.out; subst eo11) | ((with_reducible refine gate_callee (f := 19) rfl ?_); refine goesL_ (some 26) rfl rfl Try.func19 (by kernel_rfl) rfl #[.int .i64 (t102.length : Int), .slice Ao11 t105.length co11] rfl (by (try simp only [List.map_toArray, List.map_cons, List.map_nil]); first | done | rfl | (simp only [List.length_drop, List.length_take]; rfl)) ?_; (with_reducible refine (comps_Comps.calls k (t102.length : Int) _ _ t105 t108 _ ?side1 ?side2 A4.out).mono ?_); (case side1 => repeat (first | exact (Kd.R_reads' HO107.out).2.2 | (with_reducible refine Kd.C_alloc ?_ _) | (with_reducible refine Kd.C_drewN ?_ _) | (with_reducible refine Kd.C_drew ?_))); (case side2 => exact (Kd.R_reads' HO107.out).2.1); rintro e w12 ⟨v109, rfl, ho0, hb⟩; refine ⟨_, rfl, ?_⟩; have n0_ := Aside0.mk (Kd.R_below (by (with_reducible repeat (first | apply Kd.R_alloc | apply Kd.R_drewN | apply Kd.R_drew)); exact HO104.out) hb); have n1_ := Aside0.mk (Kd.R_below (by (with_reducible repeat (first | apply Kd.R_alloc | apply Kd.R_drewN | apply Kd.R_drew)); exact HO107.out) hb); have n2_ := Aside0.mk (Kd.R_lower ho0 (below_size (by repeat (first | (with_reducible first | exact HB.out | apply below_alloc | apply pw_below_drewN | apply below_drew1 | refine below_set ?_ GE101.out) | exact HB.out)))); have n3_ := Aside0.mk (blk_below (g := gb101) (o := .cells #[.slice A0_0 l0_0.length c0_0, .string a0_1, .slice A0_2 l0_2.length c0_2] 27 (0, 0)) (by (with_reducible repeat (first | refine blk_drewN ?_ _ | refine blk_drew ?_ | refine blk_alloc ?_ _)); exact BK101.out) hb); have n4_ := Aside0.mk (below_step (by repeat (first | (with_reducible first | exact HB.out | apply below_alloc | apply pw_below_drewN | apply below_drew1 | refine below_set ?_ GE101.out) | exact HB.out)) hb); clear HO104; clear HO107; clear BK101; clear HB; have HO104 := n0_; have HO107 := n1_; have HO110 := n2_; have BK101 := n3_; have HB := n4_; clear n0_ n1_ n2_ n3_ n4_; (try clear hb); (try clear hb2); (try clear hk); (try clear hi); (try clear ho0)) | ((with_reducible refine gate_dst (N := 27) rfl ?_); refine map_event ?hg (N := 27) ?hd ?hr ?_; (case hd => rfl); (case hg => rfl); (case hr => exact map_made rfl); intro gb111 hg w13 hbox hb; have n0_ := Aside0.mk (Kd.R_below (by (with_reducible repeat (first | apply Kd.R_alloc | apply Kd.R_drewN | apply Kd.R_drew)); exact HO104.out) hb); have n1_ := Aside0.mk (Kd.R_below (by (with_reducible repeat (first | apply Kd.R_alloc | apply Kd.R_drewN | apply Kd.R_drew)); exact HO107.out) hb); have n2_ := Aside0.mk (Kd.R_below (Kd.R_elderB (by (with_reducible repeat (first | apply Kd.R_alloc | apply Kd.R_drewN | apply Kd.R_drew)); exact HO110.out) gb111 (Nat.le_of_eq hg.symm)) hb); have n3_ := Aside0.mk (blk_below (g := gb101) (o := .cells #[.slice A0_0 l0_0.length c0_0, .string a0_1, .slice A0_2 l0_2.length c0_2] 27 (0, 0)) (by (with_reducible repeat (first | refine blk_drewN ?_ _ | refine blk_drew ?_ | refine blk_alloc ?_ _)); exact BK101.out) hb); have n4_ := Aside0.mk (below_step (by repeat (first | (with_reducible first | exact HB.out | apply below_alloc | apply pw_below_drewN | apply below_drew1 | refine below_set ?_ GE101.out) | exact HB.out)) hb); have n5_ := Aside0.mk (hbox); have n6_ := Aside0.mk ((by rw [hg]; exact (below_size (by repeat (first | (with_reducible first | exact HB.out | apply below_alloc | apply pw_below_drewN | apply below_drew1 | refine below_set ?_ GE101.out) | exact HB.out))) : w.heap.size ≤ gb111)); have n7_ := Aside0.mk ((by rw [hg]; exact (below_size (by repeat (first | (with_reducible first | exact HB.out | apply below_alloc | apply pw_below_drewN | apply below_drew1 | refine below_set ?_ GE101.out) | exact HB.out))) : w.heap.size ≤ gb111)); have n8_ := Aside0.mk ((by rw [hg]; exact Nat.ne_of_lt (blk_lt (g := gb101) (o := .cells #[.slice A0_0 l0_0.length c0_0, .string a0_1, .slice A0_2 l0_2.length c0_2] 27 (0, 0)) (by (with_reducible repeat (first | refine blk_drewN ?_ _ | refine blk_drew ?_ | refine blk_alloc ?_ _)); exact BK101.out)) : gb101 ≠ gb111)); have n9_ := Aside0.mk ((by rw [hg]; exact Nat.ne_of_gt (blk_lt (g := gb101) (o := .cells #[.slice A0_0 l0_0.length c0_0, .string a0_1, .slice A0_2 l0_2.length c0_2] 27 (0, 0)) (by (with_reducible repeat (first | refine blk_drewN ?_ _ | refine blk_drew ?_ | refine blk_alloc ?_ _)); exact BK101.out)) : gb111 ≠ gb101)); clear HO104; clear HO107; clear HO110; clear BK101; clear HB; have HO104 := n0_; have HO107 := n1_; have HO110 := n2_; have BK101 := n3_; have HB := n4_; have BK111 := n5_; have GW111 := n6_; have GE111 := n7_; have NB101_111 := n8_; have NB111_101 := n9_; clear n0_ n1_ n2_ n3_ n4_ n5_ n6_ n7_ n8_ n9_; clear hb hbox hg) | ((with_reducible refine gate_dst (N := 6) rfl ?_); refine box_event ?hg (N := 6) ?hd (cs := #[.map none]) (t := 58) ?hr ?_; (case hd => rfl); (case hg => rfl); (case hr => first | (go_simp; done) | (go_simp; rfl)); intro gb112 hg w14 hbox hb; have n0_ := Aside0.mk (Kd.R_below (by (with_reducible repeat (first | apply Kd.R_alloc | apply Kd.R_drewN | apply Kd.R_drew)); exact HO104.out) hb); have n1_ := Aside0.mk (Kd.R_below (by (with_reducible repeat (first | apply Kd.R_alloc | apply Kd.R_drewN | apply Kd.R_drew)); exact HO107.out) hb); have n2_ := Aside0.mk (Kd.R_below (Kd.R_elderB (by (with_reducible repeat (first | apply Kd.R_alloc | apply Kd.R_drewN | apply Kd.R_drew)); exact HO110.out) gb112 (Nat.le_of_eq hg.symm)) hb); have n3_ := Aside0.mk (blk_below (g := gb101) (o := .cells #[.slice A0_0 l0_0.length c0_0, .string a0_1, .slice A0_2 l0_2.length c0_2] 27 (0, 0)) (by (with_reducible repeat (first | refine blk_drewN ?_ _ | refine blk_drew ?_ | refine blk_alloc ?_ _)); exact BK101.out) hb); have n4_ := Aside0.mk (blk_below (g := gb111) (o := .map #[] 0) (by (with_reducible repeat (first | refine blk_drewN ?_ _ | refine blk_drew ?_ | refine blk_alloc ?_ _)); exact BK111.out) hb); have n5_ := Aside0.mk (below_step (by repeat (first | (with_reducible first | exact HB.out | apply below_alloc | apply pw_below_drewN | apply below_drew1 | refine below_set ?_ GE101.out | refine below_set ?_ GE111.out) | exact HB.out)) hb); have n6_ := Aside0.mk (hbox); have n7_ := Aside0.mk ((by rw [hg]; exact (below_size (by repeat (first | (with_reducible first | exact HB.out | apply below_alloc | apply pw_below_drewN | apply below_drew1 | refine below_set ?_ GE101.out | refine below_set ?_ GE111.out) | exact HB.out))) : w.heap.size ≤ gb112)); have n8_ := Aside0.mk ((by rw [hg]; exact (below_size (by repeat (first | (with_reducible first | exact HB.out | apply below_alloc | apply pw_below_drewN | apply below_drew1 | refine below_set ?_ GE101.out | refine below_set ?_ GE111.out) | exact HB.out))) : w.heap.size ≤ gb112)); have n9_ := Aside0.mk ((by rw [hg]; exact Nat.ne_of_lt (blk_lt (g := gb101) (o := .cells #[.slice A0_0 l0_0.length c0_0, .string a0_1, .slice A0_2 l0_2.length c0_2] 27 (0, 0)) (by (with_reducible repeat (first | refine blk_drewN ?_ _ | refine blk_drew ?_ | refine blk_alloc ?_ _)); exact BK101.out)) : gb101 ≠ gb112)); have n10_ := Aside0.mk ((by rw [hg]; exact Nat.ne_of_gt (blk_lt (g := gb101) (o := .cells #[.slice A0_0 l0_0.length c0_0, .string a0_1, .slice A0_2 l0_2.length c0_2] 27 (0, 0)) (by (with_reducible repeat (first | refine blk_drewN ?_ _ | refine blk_drew ?_ | refine blk_alloc ?_ _)); exact BK101.out)) : gb112 ≠ gb101)); have n11_ := Aside0.mk ((by rw [hg]; exact Nat.ne_of_lt (blk_lt (g := gb111) (o := .map #[] 0) (by (with_reducible repeat (first | refine blk_drewN ?_ _ | refine blk_drew ?_ | refine blk_alloc ?_ _)); exact BK111.out)) : gb111 ≠ gb112)); have n12_ := Aside0.mk ((by rw [hg]; exact Nat.ne_of_gt (blk_lt (g := gb111) (o := .map #[] 0) (by (with_reducible repeat (first | refine blk_drewN ?_ _ | refine blk_drew ?_ | refine blk_alloc ?_ _)); exact BK111.out)) : gb112 ≠ gb111)); clear HO104; clear HO107; clear HO110; clear BK101; clear BK111; clear HB; have HO104 := n0_; have HO107 := n1_; have HO110 := n2_; have BK101 := n3_; have BK111 := n4_; have HB := n5_; have BK112 := n6_; have GW112 := n7_; have GE112 := n8_; have NB101_112 := n9_; have NB112_101 := n10_; have NB111_112 := n11_; have NB112_111 := n12_; clear n0_ n1_ n2_ n3_ n4_ n5_ n6_ n7_ n8_ n9_ n10_ n11_ n12_; clear hb hbox hg; have hnb15 := NB112_101.out; have hnc15 := NB101_112.out; have hnb16 := NB112_111.out; have hnc16 := NB111_112.out; have hcz17_0 : w14.cell? ⟨gb112, 0, none⟩ = some (.map none) := (blk_cell BK112.out 0).trans rfl; have hfz17_0 := blk_frozen BK112.out 0))
 go_wp2
 repeat (go_quiet (fail); try go_wp2)
 go_loopg [30] k (fun kq v30 w' => ∃ (x30_1 : Int) (x112000_1 : Int), v30 = .int .i64 x30_1 ∧ Aside0 (strata_Strata.l0 kq t102 t108 t102 (t102.length : Int) x30_1 l0_0 a0_1 l0_2 x112000_1 0 = some (r1, r2)) ∧ Aside0 (kq ≤ k) ∧ Aside0 (Kd.R Kd.string 9 w' w.heap.size (fun _ => True) (.slice Ao8 t102.length co8) t102) ∧ Aside0 (Kd.R (Kd.int .i64) 3 w' w.heap.size (fun k_ => k_ ≠ gb111 ∧ k_ ≠ gb112) v109 t108) ∧ Aside0 (Kd.R Kd.string 9 w' w.heap.size (fun _ => True) (.slice Ao8 t102.length co8) t102) ∧ Aside0 (w'.heap[gb101]? = some (.cells #[(.slice A0_0 l0_0.length c0_0), .string a0_1, (.slice A0_2 l0_2.length c0_2)] 27 (0, 0))) ∧ Aside0 (∃ nm : Nat, x30_1 = (nm : Int) ∧ nm ≤ t102.length ∧ MapAt t102 t108 gb111 nm w') ∧ Aside0 (w'.heap[gb112]? = some (.cells #[.map (some gb111)] 58 (0, 0))) ∧ Aside0 (Below w.heap.size w w'))
 case atStart => exact ⟨(0), (0), (by first | rfl | (simp; done) | (simp [*]; done)), H', ⟨Nat.le_refl _⟩, ⟨by (with_reducible repeat (first | apply Kd.R_alloc | apply Kd.R_drewN | apply Kd.R_drew)); exact Kd.R_mono (Kd.R_far (p := ⟨gb112, 0, none⟩) (Kd.R_types HO104.out BK112.out (by decide)) (fun _ hk => hk.2) (.map (some gb111))) (fun _ hk => trivial)⟩, ⟨by (with_reducible repeat (first | apply Kd.R_alloc | apply Kd.R_drewN | apply Kd.R_drew)); exact Kd.R_mono (Kd.R_far (p := ⟨gb112, 0, none⟩) (Kd.R_mono HO110.out (fun k_ hk => (⟨hk, hk.2⟩ : _ ∧ k_ ≠ gb112))) (fun _ hk => hk.2) (.map (some gb111))) (fun _ hk => ⟨hk.1.1.2, hk.1.2⟩)⟩, ⟨by (with_reducible repeat (first | apply Kd.R_alloc | apply Kd.R_drewN | apply Kd.R_drew)); exact Kd.R_mono (Kd.R_far (p := ⟨gb112, 0, none⟩) (Kd.R_types HO104.out BK112.out (by decide)) (fun _ hk => hk.2) (.map (some gb111))) (fun _ hk => trivial)⟩, ⟨by (with_reducible repeat (first | refine blk_drewN ?_ _ | refine blk_drew ?_ | refine blk_alloc ?_ _)); refine blk_far ?_ NB101_112.out _; (with_reducible repeat (first | refine blk_drewN ?_ _ | refine blk_drew ?_ | refine blk_alloc ?_ _)); exact BK101.out⟩, ⟨0, rfl, Nat.zero_le _, MapAt.start ((Below.heap_setCell _ _ _ _ NB111_112.out).trans BK111.out)⟩, ⟨by (with_reducible repeat (first | refine blk_drewN ?_ _ | refine blk_drew ?_ | refine blk_alloc ?_ _)); refine blk_put (cs := #[.map none]) ?_ 0 _ rfl; (with_reducible repeat (first | refine blk_drewN ?_ _ | refine blk_drew ?_ | refine blk_alloc ?_ _)); exact BK112.out⟩, ⟨by repeat (first | (with_reducible first | exact HB.out | apply below_alloc | apply pw_below_drewN | apply below_drew1 | refine below_set ?_ GE101.out | refine below_set ?_ GE111.out | refine below_set ?_ GE112.out) | exact HB.out)⟩⟩
 clear H'
 try clear c1
 try clear p2
 try clear c10
 try clear c11
 try clear c15
 try clear c16
 try clear hcz17_0
 try clear hcz6_0
 try clear hcz6_1
 try clear hcz6_2
 try clear hcz9_0
 try clear hcz9_1
 try clear hcz9_2
 try clear hfz17_0
 try clear hfz6_0
 try clear hfz6_1
 try clear hfz6_2
 try clear hfz9_0
 try clear hfz9_1
 try clear hfz9_2
 obtain ⟨x30_1, x112000_1, rfl, HA, HK1, HO_4, HO_5, HO_28, BK101, BK111, BK112, HB⟩ := hrel
 obtain _ | k1 := gk
 · exact absurd HA.out (by simp [strata_Strata.l0])
 have H := HA.out
 clear HA
 simp only [strata_Strata.l0] at H
 by_cases c18 : x30_1 < (t102.length : Int)
 case pos =>
  rw [if_pos c18] at H
  have c18b0 := decide_eq_true c18
  clear c18
  by_cases c19 : 0 ≤ x30_1
  case neg => rw [if_neg c19] at H; exact absurd H (by simp)
  rw [if_pos c19] at H
  have c19b0 := decide_eq_true c19
  clear c19
  by_cases c20 : x30_1 < (t102.length : Int)
  case neg => rw [if_neg c20] at H; exact absurd H (by simp)
  rw [if_pos c20] at H
  have c20b0 := decide_eq_true c20
  clear c20
  by_cases c21 : x30_1 < (t108.length : Int)
  case neg => rw [if_neg c21] at H; exact absurd H (by simp)
  rw [if_pos c21] at H
  have c21b0 := decide_eq_true c21
  clear c21
  have H' := Aside0.mk H
  clear H
  have p113 : 0 ≤ (x30_1 : Int) := of_decide_eq_true (by with_reducible assumption)
  have q113 : x30_1 < (t102.length : Int) := of_decide_eq_true (by with_reducible assumption)
  obtain ⟨ad113, e113, hx113_0⟩ := Kd.at_string (Kd.R_reads' HO_28.out).2.2 x30_1 p113 q113
  cases e113
  replace p113 := eq_true p113
  replace q113 := eq_true q113
  have hcz24_0 : wr.cell? ⟨gb112, 0, none⟩ = some (.map (some gb111)) := (blk_cell BK112.out 0).trans rfl
  have hfz24_0 := blk_frozen BK112.out 0
  obtain ⟨Ao25, co25, eo25⟩ := Kd.R_slice HO_5.out
  subst eo25
  have p114 : 0 ≤ (x30_1 : Int) := of_decide_eq_true (by with_reducible assumption)
  have q114 : x30_1 < (t108.length : Int) := of_decide_eq_true (by with_reducible assumption)
  obtain ⟨ad114, e114, hx114_0⟩ := Kd.at_int (Kd.R_reads' HO_5.out).2.2 x30_1 p114 q114
  cases e114
  replace p114 := eq_true p114
  replace q114 := eq_true q114
  obtain ⟨nm, hnm, hle, hmap⟩ := BK111.out
  have hlt_ : x30_1 < (t102.length : Int) := of_decide_eq_true (by with_reducible assumption)
  obtain ⟨W2, hrun, hmap2, hgr⟩ := (hmap.same (W' := wr.drew) rfl).up (lt_maxLen (Kd.C_max (Kd.R_reads' HO_28.out).2.2) (by omega)) (by rw [← hnm]; exact szN_at SZ.out _) (by rw [← hnm]; exact wfI_at WF.out _)
  rw [← hnm] at hrun
  have HMN := Aside0.mk (And.intro hnm (And.intro (show nm + 1 ≤ t102.length by omega) (And.intro hmap2 (show wr.grownBy W2 (some gb111) from ⟨hgr.os, hgr.tape, hgr.output, hgr.size, hgr.block⟩))))
  have HNO := Aside0.mk hmap
  have HMAX := Aside0.mk (Kd.C_max (Kd.R_reads' HO_28.out).2.2)
  clear hnm hle hmap hmap2 hgr BK111 hlt_
  go_wp2_with fail
  go_region_o
  all_goals go_wp2
  go_roundg k1
  case measure => have := HK1.out; omega
  case rel => exact ⟨(wrap64 (x30_1 + 1)), (rd t108 x30_1), (by first | rfl | (simp; done) | (simp [*]; done)), H', ⟨by have := HK1.out; omega⟩, ⟨Kd.R_mono (Kd.R_grown (Kd.R_nomap HO_4.out HNO.out) HMN.out.2.2.2 (fun k_ hk e_ => hk.2 (Option.some.inj e_))) (fun _ _ => trivial)⟩, ⟨Kd.R_mono (Kd.R_grown HO_5.out HMN.out.2.2.2 (fun k_ hk e_ => hk.1 (Option.some.inj e_))) (fun _ hk => hk)⟩, ⟨Kd.R_mono (Kd.R_grown (Kd.R_nomap HO_28.out HNO.out) HMN.out.2.2.2 (fun k_ hk e_ => hk.2 (Option.some.inj e_))) (fun _ _ => trivial)⟩, ⟨blk_grown BK101.out HMN.out.2.2.2 (fun e_ => NB101_111.out (Option.some.inj e_))⟩, ⟨nm + 1, by rw [HMN.out.1]; have h1 := HMN.out.2.1; have h2 := HMAX.out; unfold wrap64; omega, HMN.out.2.1, HMN.out.2.2.1⟩, ⟨blk_grown BK112.out HMN.out.2.2.2 (fun e_ => NB112_111.out (Option.some.inj e_))⟩, ⟨HB.out.grown HMN.out.2.2.2 HB.out.size (fun k_ e_ => by cases e_; exact GE111.out)⟩⟩
 rw [if_neg c18] at H
 have c18b0 := decide_eq_false c18
 have hx18 : ¬ x30_1 < (t102.length : Int) := c18
 clear c18
 obtain ⟨nm, hnm, hle, hmap⟩ := BK111.out
 obtain rfl : nm = t102.length := by omega
 obtain ⟨oM, hoM, hom, hnc⟩ := hmap.obj'
 have HOM := Aside0.mk hom
 have HNC := Aside0.mk hnc
 have BK111 := Aside0.mk hoM
 clear hx18 hnm hle hmap hoM hom hnc
 have H' := Aside0.mk H
 clear H
 go_wp2_with (first | ((with_reducible refine gate_dst (N := 9) rfl ?_); refine box_event ?hg (N := 9) ?hd (cs := #[.bool false]) (t := 4) ?hr ?_; (case hd => rfl); (case hg => rfl); (case hr => first | (go_simp; done) | (go_simp; rfl)); intro gb115 hg w28 hbox hb; have n0_ := Aside0.mk (Kd.R_below (by (with_reducible repeat (first | apply Kd.R_alloc | apply Kd.R_drewN | apply Kd.R_drew)); exact HO_4.out) hb); have n1_ := Aside0.mk (Kd.R_below (by (with_reducible repeat (first | apply Kd.R_alloc | apply Kd.R_drewN | apply Kd.R_drew)); exact HO_5.out) hb); have n2_ := Aside0.mk (Kd.R_below (by (with_reducible repeat (first | apply Kd.R_alloc | apply Kd.R_drewN | apply Kd.R_drew)); exact HO_28.out) hb); have n3_ := Aside0.mk (blk_below (g := gb101) (o := .cells #[.slice A0_0 l0_0.length c0_0, .string a0_1, .slice A0_2 l0_2.length c0_2] 27 (0, 0)) (by (with_reducible repeat (first | refine blk_drewN ?_ _ | refine blk_drew ?_ | refine blk_alloc ?_ _)); exact BK101.out) hb); have n4_ := Aside0.mk (blk_below (g := gb111) (o := oM) (by (with_reducible repeat (first | refine blk_drewN ?_ _ | refine blk_drew ?_ | refine blk_alloc ?_ _)); exact BK111.out) hb); have n5_ := Aside0.mk (blk_below (g := gb112) (o := .cells #[.map (some gb111)] 58 (0, 0)) (by (with_reducible repeat (first | refine blk_drewN ?_ _ | refine blk_drew ?_ | refine blk_alloc ?_ _)); exact BK112.out) hb); have n6_ := Aside0.mk (below_step (by repeat (first | (with_reducible first | exact HB.out | apply below_alloc | apply pw_below_drewN | apply below_drew1 | refine below_set ?_ GE101.out | refine below_set ?_ GE111.out | refine below_set ?_ GE112.out) | exact HB.out)) hb); have n7_ := Aside0.mk (hbox); have n8_ := Aside0.mk ((by rw [hg]; exact (below_size (by repeat (first | (with_reducible first | exact HB.out | apply below_alloc | apply pw_below_drewN | apply below_drew1 | refine below_set ?_ GE101.out | refine below_set ?_ GE111.out | refine below_set ?_ GE112.out) | exact HB.out))) : w.heap.size ≤ gb115)); have n9_ := Aside0.mk ((by rw [hg]; exact (below_size (by repeat (first | (with_reducible first | exact HB.out | apply below_alloc | apply pw_below_drewN | apply below_drew1 | refine below_set ?_ GE101.out | refine below_set ?_ GE111.out | refine below_set ?_ GE112.out) | exact HB.out))) : w.heap.size ≤ gb115)); have n10_ := Aside0.mk ((by rw [hg]; exact Nat.ne_of_lt (blk_lt (g := gb101) (o := .cells #[.slice A0_0 l0_0.length c0_0, .string a0_1, .slice A0_2 l0_2.length c0_2] 27 (0, 0)) (by (with_reducible repeat (first | refine blk_drewN ?_ _ | refine blk_drew ?_ | refine blk_alloc ?_ _)); exact BK101.out)) : gb101 ≠ gb115)); have n11_ := Aside0.mk ((by rw [hg]; exact Nat.ne_of_gt (blk_lt (g := gb101) (o := .cells #[.slice A0_0 l0_0.length c0_0, .string a0_1, .slice A0_2 l0_2.length c0_2] 27 (0, 0)) (by (with_reducible repeat (first | refine blk_drewN ?_ _ | refine blk_drew ?_ | refine blk_alloc ?_ _)); exact BK101.out)) : gb115 ≠ gb101)); have n12_ := Aside0.mk ((by rw [hg]; exact Nat.ne_of_lt (blk_lt (g := gb111) (o := oM) (by (with_reducible repeat (first | refine blk_drewN ?_ _ | refine blk_drew ?_ | refine blk_alloc ?_ _)); exact BK111.out)) : gb111 ≠ gb115)); have n13_ := Aside0.mk ((by rw [hg]; exact Nat.ne_of_gt (blk_lt (g := gb111) (o := oM) (by (with_reducible repeat (first | refine blk_drewN ?_ _ | refine blk_drew ?_ | refine blk_alloc ?_ _)); exact BK111.out)) : gb115 ≠ gb111)); have n14_ := Aside0.mk ((by rw [hg]; exact Nat.ne_of_lt (blk_lt (g := gb112) (o := .cells #[.map (some gb111)] 58 (0, 0)) (by (with_reducible repeat (first | refine blk_drewN ?_ _ | refine blk_drew ?_ | refine blk_alloc ?_ _)); exact BK112.out)) : gb112 ≠ gb115)); have n15_ := Aside0.mk ((by rw [hg]; exact Nat.ne_of_gt (blk_lt (g := gb112) (o := .cells #[.map (some gb111)] 58 (0, 0)) (by (with_reducible repeat (first | refine blk_drewN ?_ _ | refine blk_drew ?_ | refine blk_alloc ?_ _)); exact BK112.out)) : gb115 ≠ gb112)); clear HO_4; clear HO_5; clear HO_28; clear BK101; clear BK111; clear BK112; clear HB; have HO_4 := n0_; have HO_5 := n1_; have HO_28 := n2_; have BK101 := n3_; have BK111 := n4_; have BK112 := n5_; have HB := n6_; have BK115 := n7_; have GW115 := n8_; have GE115 := n9_; have NB101_115 := n10_; have NB115_101 := n11_; have NB111_115 := n12_; have NB115_111 := n13_; have NB112_115 := n14_; have NB115_112 := n15_; clear n0_ n1_ n2_ n3_ n4_ n5_ n6_ n7_ n8_ n9_ n10_ n11_ n12_ n13_ n14_ n15_; clear hb hbox hg) | ((with_reducible refine gate_dst (N := 10) rfl ?_); refine box_event ?hg (N := 10) ?hd (cs := #[.bool false]) (t := 4) ?hr ?_; (case hd => rfl); (case hg => rfl); (case hr => first | (go_simp; done) | (go_simp; rfl)); intro gb116 hg w29 hbox hb; have n0_ := Aside0.mk (Kd.R_below (by (with_reducible repeat (first | apply Kd.R_alloc | apply Kd.R_drewN | apply Kd.R_drew)); exact HO_4.out) hb); have n1_ := Aside0.mk (Kd.R_below (by (with_reducible repeat (first | apply Kd.R_alloc | apply Kd.R_drewN | apply Kd.R_drew)); exact HO_5.out) hb); have n2_ := Aside0.mk (Kd.R_below (by (with_reducible repeat (first | apply Kd.R_alloc | apply Kd.R_drewN | apply Kd.R_drew)); exact HO_28.out) hb); have n3_ := Aside0.mk (blk_below (g := gb101) (o := .cells #[.slice A0_0 l0_0.length c0_0, .string a0_1, .slice A0_2 l0_2.length c0_2] 27 (0, 0)) (by (with_reducible repeat (first | refine blk_drewN ?_ _ | refine blk_drew ?_ | refine blk_alloc ?_ _)); exact BK101.out) hb); have n4_ := Aside0.mk (blk_below (g := gb111) (o := oM) (by (with_reducible repeat (first | refine blk_drewN ?_ _ | refine blk_drew ?_ | refine blk_alloc ?_ _)); exact BK111.out) hb); have n5_ := Aside0.mk (blk_below (g := gb112) (o := .cells #[.map (some gb111)] 58 (0, 0)) (by (with_reducible repeat (first | refine blk_drewN ?_ _ | refine blk_drew ?_ | refine blk_alloc ?_ _)); exact BK112.out) hb); have n6_ := Aside0.mk (blk_below (g := gb115) (o := .cells #[.bool false] 4 (0, 0)) (by (with_reducible repeat (first | refine blk_drewN ?_ _ | refine blk_drew ?_ | refine blk_alloc ?_ _)); exact BK115.out) hb); have n7_ := Aside0.mk (below_step (by repeat (first | (with_reducible first | exact HB.out | apply below_alloc | apply pw_below_drewN | apply below_drew1 | refine below_set ?_ GE101.out | refine below_set ?_ GE111.out | refine below_set ?_ GE112.out | refine below_set ?_ GE115.out) | exact HB.out)) hb); have n8_ := Aside0.mk (hbox); have n9_ := Aside0.mk ((by rw [hg]; exact (below_size (by repeat (first | (with_reducible first | exact HB.out | apply below_alloc | apply pw_below_drewN | apply below_drew1 | refine below_set ?_ GE101.out | refine below_set ?_ GE111.out | refine below_set ?_ GE112.out | refine below_set ?_ GE115.out) | exact HB.out))) : w.heap.size ≤ gb116)); have n10_ := Aside0.mk ((by rw [hg]; exact (below_size (by repeat (first | (with_reducible first | exact HB.out | apply below_alloc | apply pw_below_drewN | apply below_drew1 | refine below_set ?_ GE101.out | refine below_set ?_ GE111.out | refine below_set ?_ GE112.out | refine below_set ?_ GE115.out) | exact HB.out))) : w.heap.size ≤ gb116)); have n11_ := Aside0.mk ((by rw [hg]; exact Nat.ne_of_lt (blk_lt (g := gb101) (o := .cells #[.slice A0_0 l0_0.length c0_0, .string a0_1, .slice A0_2 l0_2.length c0_2] 27 (0, 0)) (by (with_reducible repeat (first | refine blk_drewN ?_ _ | refine blk_drew ?_ | refine blk_alloc ?_ _)); exact BK101.out)) : gb101 ≠ gb116)); have n12_ := Aside0.mk ((by rw [hg]; exact Nat.ne_of_gt (blk_lt (g := gb101) (o := .cells #[.slice A0_0 l0_0.length c0_0, .string a0_1, .slice A0_2 l0_2.length c0_2] 27 (0, 0)) (by (with_reducible repeat (first | refine blk_drewN ?_ _ | refine blk_drew ?_ | refine blk_alloc ?_ _)); exact BK101.out)) : gb116 ≠ gb101)); have n13_ := Aside0.mk ((by rw [hg]; exact Nat.ne_of_lt (blk_lt (g := gb111) (o := oM) (by (with_reducible repeat (first | refine blk_drewN ?_ _ | refine blk_drew ?_ | refine blk_alloc ?_ _)); exact BK111.out)) : gb111 ≠ gb116)); have n14_ := Aside0.mk ((by rw [hg]; exact Nat.ne_of_gt (blk_lt (g := gb111) (o := oM) (by (with_reducible repeat (first | refine blk_drewN ?_ _ | refine blk_drew ?_ | refine blk_alloc ?_ _)); exact BK111.out)) : gb116 ≠ gb111)); have n15_ := Aside0.mk ((by rw [hg]; exact Nat.ne_of_lt (blk_lt (g := gb112) (o := .cells #[.map (some gb111)] 58 (0, 0)) (by (with_reducible repeat (first | refine blk_drewN ?_ _ | refine blk_drew ?_ | refine blk_alloc ?_ _)); exact BK112.out)) : gb112 ≠ gb116)); have n16_ := Aside0.mk ((by rw [hg]; exact Nat.ne_of_gt (blk_lt (g := gb112) (o := .cells #[.map (some gb111)] 58 (0, 0)) (by (with_reducible repeat (first | refine blk_drewN ?_ _ | refine blk_drew ?_ | refine blk_alloc ?_ _)); exact BK112.out)) : gb116 ≠ gb112)); have n17_ := Aside0.mk ((by rw [hg]; exact Nat.ne_of_lt (blk_lt (g := gb115) (o := .cells #[.bool false] 4 (0, 0)) (by (with_reducible repeat (first | refine blk_drewN ?_ _ | refine blk_drew ?_ | refine blk_alloc ?_ _)); exact BK115.out)) : gb115 ≠ gb116)); have n18_ := Aside0.mk ((by rw [hg]; exact Nat.ne_of_gt (blk_lt (g := gb115) (o := .cells #[.bool false] 4 (0, 0)) (by (with_reducible repeat (first | refine blk_drewN ?_ _ | refine blk_drew ?_ | refine blk_alloc ?_ _)); exact BK115.out)) : gb116 ≠ gb115)); clear HO_4; clear HO_5; clear HO_28; clear BK101; clear BK111; clear BK112; clear BK115; clear HB; have HO_4 := n0_; have HO_5 := n1_; have HO_28 := n2_; have BK101 := n3_; have BK111 := n4_; have BK112 := n5_; have BK115 := n6_; have HB := n7_; have BK116 := n8_; have GW116 := n9_; have GE116 := n10_; have NB101_116 := n11_; have NB116_101 := n12_; have NB111_116 := n13_; have NB116_111 := n14_; have NB112_116 := n15_; have NB116_112 := n16_; have NB115_116 := n17_; have NB116_115 := n18_; clear n0_ n1_ n2_ n3_ n4_ n5_ n6_ n7_ n8_ n9_ n10_ n11_ n12_ n13_ n14_ n15_ n16_ n17_ n18_; clear hb hbox hg; have hnb30 := NB115_101.out; have hnc30 := NB101_115.out; have hnb31 := NB115_111.out; have hnc31 := NB111_115.out; have hnb32 := NB115_112.out; have hnc32 := NB112_115.out; have hnb33 := NB115_116.out; have hnc33 := NB116_115.out; have hcz34_0 : w29.cell? ⟨gb115, 0, none⟩ = some (.bool false) := (blk_cell BK115.out 0).trans rfl; have hfz34_0 := blk_frozen BK115.out 0; have hnb35 := NB116_101.out; have hnc35 := NB101_116.out; have hnb36 := NB116_111.out; have hnc36 := NB111_116.out; have hnb37 := NB116_112.out; have hnc37 := NB112_116.out; have hcz38_0 : w29.cell? ⟨gb116, 0, none⟩ = some (.bool false) := (blk_cell BK116.out 0).trans rfl; have hfz38_0 := blk_frozen BK116.out 0; have hnb39 := NB101_111.out; have hnc39 := NB111_101.out; have hnb40 := NB101_112.out; have hnc40 := NB112_101.out; have hcz41_0 : w29.cell? ⟨gb101, 0, none⟩ = some (.slice A0_0 l0_0.length c0_0) := (blk_cell BK101.out 0).trans rfl; have hcz41_1 : w29.cell? ⟨gb101, 1, none⟩ = some (.string a0_1) := (blk_cell BK101.out 1).trans rfl; have hcz41_2 : w29.cell? ⟨gb101, 2, none⟩ = some (.slice A0_2 l0_2.length c0_2) := (blk_cell BK101.out 2).trans rfl; have hfz41_0 := blk_frozen BK101.out 0; have hfz41_1 := blk_frozen BK101.out 1; have hfz41_2 := blk_frozen BK101.out 2))
 go_wp2
 repeat (go_quiet (fail); try go_wp2)
 go_loopg [45] k1 (fun kq v45 w' => ∃ (x45_2 : Int) (x116000_2 : Bool) (x117000_2 : Bool), v45 = .int .i64 x45_2 ∧ Aside0 (strata_Strata.l1 kq t102 t108 l0_0 (l0_0.length : Int) x45_2 x112000_1 0 x116000_2 x117000_2 = some (r1, r2)) ∧ Aside0 (kq ≤ k1) ∧ Aside0 (Kd.R Kd.string 9 w' w.heap.size (fun _ => True) (.slice Ao8 t102.length co8) t102) ∧ Aside0 (Kd.R (Kd.int .i64) 3 w' w.heap.size (fun k_ => k_ ≠ gb111 ∧ k_ ≠ gb112) v109 t108) ∧ Aside0 (w'.heap[gb101]? = some (.cells #[(.slice A0_0 l0_0.length c0_0), .string a0_1, (.slice A0_2 l0_2.length c0_2)] 27 (0, 0))) ∧ Aside0 (w'.heap[gb111]? = some oM) ∧ Aside0 (w'.heap[gb112]? = some (.cells #[.map (some gb111)] 58 (0, 0))) ∧ Aside0 (w'.heap[gb115]? = some (.cells #[.bool x116000_2] 4 (0, 0))) ∧ Aside0 (w'.heap[gb116]? = some (.cells #[.bool x117000_2] 4 (0, 0))) ∧ Aside0 (Below w.heap.size w w'))
 case atStart => exact ⟨(0), (false), (false), (by first | rfl | (simp; done) | (simp [*]; done)), H', ⟨Nat.le_refl _⟩, ⟨by (with_reducible repeat (first | apply Kd.R_alloc | apply Kd.R_drewN | apply Kd.R_drew)); exact Kd.R_mono (Kd.R_far (p := ⟨gb116, 0, none⟩) (Kd.R_far (p := ⟨gb115, 0, none⟩) (Kd.R_types (Kd.R_types HO_4.out BK115.out (by decide)) BK116.out (by decide)) (fun _ hk => hk.1.2) (.bool false)) (fun _ hk => hk.2) (.bool false)) (fun _ hk => trivial)⟩, ⟨by (with_reducible repeat (first | apply Kd.R_alloc | apply Kd.R_drewN | apply Kd.R_drew)); exact Kd.R_mono (Kd.R_far (p := ⟨gb116, 0, none⟩) (Kd.R_far (p := ⟨gb115, 0, none⟩) (Kd.R_types (Kd.R_types HO_5.out BK115.out (by decide)) BK116.out (by decide)) (fun _ hk => hk.1.2) (.bool false)) (fun _ hk => hk.2) (.bool false)) (fun _ hk => ⟨hk.1.1.1, hk.1.1.2⟩)⟩, ⟨by (with_reducible repeat (first | refine blk_drewN ?_ _ | refine blk_drew ?_ | refine blk_alloc ?_ _)); refine blk_far ?_ NB101_116.out _; (with_reducible repeat (first | refine blk_drewN ?_ _ | refine blk_drew ?_ | refine blk_alloc ?_ _)); refine blk_far ?_ NB101_115.out _; (with_reducible repeat (first | refine blk_drewN ?_ _ | refine blk_drew ?_ | refine blk_alloc ?_ _)); exact BK101.out⟩, ⟨by (with_reducible repeat (first | refine blk_drewN ?_ _ | refine blk_drew ?_ | refine blk_alloc ?_ _)); refine obj_far ?_ NB111_116.out _; (with_reducible repeat (first | refine blk_drewN ?_ _ | refine blk_drew ?_ | refine blk_alloc ?_ _)); refine obj_far ?_ NB111_115.out _; (with_reducible repeat (first | refine blk_drewN ?_ _ | refine blk_drew ?_ | refine blk_alloc ?_ _)); exact BK111.out⟩, ⟨by (with_reducible repeat (first | refine blk_drewN ?_ _ | refine blk_drew ?_ | refine blk_alloc ?_ _)); refine blk_far ?_ NB112_116.out _; (with_reducible repeat (first | refine blk_drewN ?_ _ | refine blk_drew ?_ | refine blk_alloc ?_ _)); refine blk_far ?_ NB112_115.out _; (with_reducible repeat (first | refine blk_drewN ?_ _ | refine blk_drew ?_ | refine blk_alloc ?_ _)); exact BK112.out⟩, ⟨by (with_reducible repeat (first | refine blk_drewN ?_ _ | refine blk_drew ?_ | refine blk_alloc ?_ _)); refine blk_far ?_ NB115_116.out _; (with_reducible repeat (first | refine blk_drewN ?_ _ | refine blk_drew ?_ | refine blk_alloc ?_ _)); refine blk_put (cs := #[.bool false]) ?_ 0 _ rfl; (with_reducible repeat (first | refine blk_drewN ?_ _ | refine blk_drew ?_ | refine blk_alloc ?_ _)); exact BK115.out⟩, ⟨by (with_reducible repeat (first | refine blk_drewN ?_ _ | refine blk_drew ?_ | refine blk_alloc ?_ _)); refine blk_put (cs := #[.bool false]) ?_ 0 _ rfl; (with_reducible repeat (first | refine blk_drewN ?_ _ | refine blk_drew ?_ | refine blk_alloc ?_ _)); refine blk_far ?_ NB116_115.out _; (with_reducible repeat (first | refine blk_drewN ?_ _ | refine blk_drew ?_ | refine blk_alloc ?_ _)); exact BK116.out⟩, ⟨by repeat (first | (with_reducible first | exact HB.out | apply below_alloc | apply pw_below_drewN | apply below_drew1 | refine below_set ?_ GE101.out | refine below_set ?_ GE111.out | refine below_set ?_ GE112.out | refine below_set ?_ GE115.out | refine below_set ?_ GE116.out) | exact HB.out)⟩⟩
 clear H'
 try clear c1
 try clear p1
 try clear q1
 try clear hx1
 try clear c2
 try clear p2
 try clear c3
 try clear c4
 try clear p6
 try clear c10
 try clear c11
 try clear p11
 try clear q11
 try clear hx11
 try clear c15
 try clear c16
 try clear c18
 try clear c18b0
 try clear c19
 try clear c19b0
 try clear c20
 try clear c20b0
 try clear c21
 try clear c21b0
 try clear c22
 try clear c23
 try clear c26
 try clear c30
 try clear c31
 try clear c32
 try clear c33
 try clear c35
 try clear c36
 try clear c37
 try clear c39
 try clear c40
 try clear hcz17_0
 try clear hcz24_0
 try clear hcz27_0
 try clear hcz34_0
 try clear hcz38_0
 try clear hcz41_0
 try clear hcz41_1
 try clear hcz41_2
 try clear hcz6_0
 try clear hcz6_1
 try clear hcz6_2
 try clear hcz9_0
 try clear hcz9_1
 try clear hcz9_2
 try clear hfz17_0
 try clear hfz24_0
 try clear hfz27_0
 try clear hfz34_0
 try clear hfz38_0
 try clear hfz41_0
 try clear hfz41_1
 try clear hfz41_2
 try clear hfz6_0
 try clear hfz6_1
 try clear hfz6_2
 try clear hfz9_0
 try clear hfz9_1
 try clear hfz9_2
 try clear hx113_0
 try clear hx114_0
 try clear p113
 try clear p114
 try clear p2
 try clear q113
 try clear q114
 obtain ⟨x45_2, x116000_2, x117000_2, rfl, HA, HK2, HO_4, HO_5, BK101, BK111, BK112, BK115, BK116, HB⟩ := hrel
 obtain _ | k2 := gk
 · exact absurd HA.out (by simp [strata_Strata.l1])
 have H := HA.out
 clear HA
 simp only [strata_Strata.l1] at H
 by_cases c42 : x45_2 < (l0_0.length : Int)
 case pos =>
  rw [if_pos c42] at H
  have c42b0 := decide_eq_true c42
  clear c42
  by_cases c43 : 0 ≤ x45_2
  case neg => rw [if_neg c43] at H; exact absurd H (by simp)
  rw [if_pos c43] at H
  have c43b0 := decide_eq_true c43
  clear c43
  by_cases c44 : x45_2 < (l0_0.length : Int)
  case neg => rw [if_neg c44] at H; exact absurd H (by simp)
  rw [if_pos c44] at H
  have c44b0 := decide_eq_true c44
  clear c44
  replace H := Option.bind_eq_some_iff.mp H
  obtain ⟨t119, A450, H⟩ := H
  have A45 := Aside0.mk A450
  clear A450
  replace H := Option.bind_eq_some_iff.mp H
  obtain ⟨⟨t121, t122⟩, A460, H⟩ := H
  dsimp only at H
  have A46 := Aside0.mk A460
  clear A460
  have H' := Aside0.mk H
  clear H
  have p117 : 0 ≤ (x45_2 : Int) := of_decide_eq_true (by with_reducible assumption)
  have q117 : x45_2 < (l0_0.length : Int) := of_decide_eq_true (by with_reducible assumption)
  obtain ⟨ad117, A117_1, c117_1, A117_3, c117_3, e117, hx117_0, hx117_1, hx117_2, hx117_3, hl117_1, hi117_1, hl117_3, hi117_3⟩ := at_T39 HR0_0.out x45_2 p117 q117
  cases e117
  replace hx117_0 := (HB.out.cell (World.block_lt_of_cell? w _ hx117_0)).trans hx117_0
  replace hx117_1 := (HB.out.cell (World.block_lt_of_cell? w _ hx117_1)).trans hx117_1
  replace hx117_2 := (HB.out.cell (World.block_lt_of_cell? w _ hx117_2)).trans hx117_2
  replace hx117_3 := (HB.out.cell (World.block_lt_of_cell? w _ hx117_3)).trans hx117_3
  have HR117_1 := Aside0.mk hi117_1
  have HC117_1 := Aside0.mk hl117_1
  clear hi117_1 hl117_1
  have HR117_3 := Aside0.mk hi117_3
  have HC117_3 := Aside0.mk hl117_3
  clear hi117_3 hl117_3
  replace p117 := eq_true p117
  replace q117 := eq_true q117
  go_wp2_with (first | ((with_reducible refine gate_dst (N := 12) rfl ?_); refine box_event ?hg (N := 12) ?hd (cs := #[.string (⟨#[]⟩ : ByteArray), .slice none 0 0, .int .i64 0, .slice none 0 0]) (t := 39) ?hr ?_; (case hd => rfl); (case hg => rfl); (case hr => first | (go_simp; done) | (go_simp; rfl)); intro gb118 hg w47 hbox hb; have n0_ := Aside0.mk (Kd.R_below (by (with_reducible repeat (first | apply Kd.R_alloc | apply Kd.R_drewN | apply Kd.R_drew)); exact HO_4.out) hb); have n1_ := Aside0.mk (Kd.R_below (by (with_reducible repeat (first | apply Kd.R_alloc | apply Kd.R_drewN | apply Kd.R_drew)); exact HO_5.out) hb); have n2_ := Aside0.mk (blk_below (g := gb101) (o := .cells #[.slice (some ad117) l0_0.length c0_0, .string a0_1, .slice A0_2 l0_2.length c0_2] 27 (0, 0)) (by (with_reducible repeat (first | refine blk_drewN ?_ _ | refine blk_drew ?_ | refine blk_alloc ?_ _)); exact BK101.out) hb); have n3_ := Aside0.mk (blk_below (g := gb111) (o := oM) (by (with_reducible repeat (first | refine blk_drewN ?_ _ | refine blk_drew ?_ | refine blk_alloc ?_ _)); exact BK111.out) hb); have n4_ := Aside0.mk (blk_below (g := gb112) (o := .cells #[.map (some gb111)] 58 (0, 0)) (by (with_reducible repeat (first | refine blk_drewN ?_ _ | refine blk_drew ?_ | refine blk_alloc ?_ _)); exact BK112.out) hb); have n5_ := Aside0.mk (blk_below (g := gb115) (o := .cells #[.bool x116000_2] 4 (0, 0)) (by (with_reducible repeat (first | refine blk_drewN ?_ _ | refine blk_drew ?_ | refine blk_alloc ?_ _)); exact BK115.out) hb); have n6_ := Aside0.mk (blk_below (g := gb116) (o := .cells #[.bool x117000_2] 4 (0, 0)) (by (with_reducible repeat (first | refine blk_drewN ?_ _ | refine blk_drew ?_ | refine blk_alloc ?_ _)); exact BK116.out) hb); have n7_ := Aside0.mk (below_step (by repeat (first | (with_reducible first | exact HB.out | apply below_alloc | apply pw_below_drewN | apply below_drew1 | refine below_set ?_ GE101.out | refine below_set ?_ GE111.out | refine below_set ?_ GE112.out | refine below_set ?_ GE115.out | refine below_set ?_ GE116.out) | exact HB.out)) hb); have n8_ := Aside0.mk (hbox); have n9_ := Aside0.mk ((by rw [hg]; exact (below_size (by repeat (first | (with_reducible first | exact HB.out | apply below_alloc | apply pw_below_drewN | apply below_drew1 | refine below_set ?_ GE101.out | refine below_set ?_ GE111.out | refine below_set ?_ GE112.out | refine below_set ?_ GE115.out | refine below_set ?_ GE116.out) | exact HB.out))) : w.heap.size ≤ gb118)); have n10_ := Aside0.mk ((by rw [hg]; exact (below_size (by repeat (first | (with_reducible first | exact HB.out | apply below_alloc | apply pw_below_drewN | apply below_drew1 | refine below_set ?_ GE101.out | refine below_set ?_ GE111.out | refine below_set ?_ GE112.out | refine below_set ?_ GE115.out | refine below_set ?_ GE116.out) | exact HB.out))) : w.heap.size ≤ gb118)); have n11_ := Aside0.mk ((by rw [hg]; exact Nat.ne_of_lt (blk_lt (g := gb101) (o := .cells #[.slice (some ad117) l0_0.length c0_0, .string a0_1, .slice A0_2 l0_2.length c0_2] 27 (0, 0)) (by (with_reducible repeat (first | refine blk_drewN ?_ _ | refine blk_drew ?_ | refine blk_alloc ?_ _)); exact BK101.out)) : gb101 ≠ gb118)); have n12_ := Aside0.mk ((by rw [hg]; exact Nat.ne_of_gt (blk_lt (g := gb101) (o := .cells #[.slice (some ad117) l0_0.length c0_0, .string a0_1, .slice A0_2 l0_2.length c0_2] 27 (0, 0)) (by (with_reducible repeat (first | refine blk_drewN ?_ _ | refine blk_drew ?_ | refine blk_alloc ?_ _)); exact BK101.out)) : gb118 ≠ gb101)); have n13_ := Aside0.mk ((by rw [hg]; exact Nat.ne_of_lt (blk_lt (g := gb111) (o := oM) (by (with_reducible repeat (first | refine blk_drewN ?_ _ | refine blk_drew ?_ | refine blk_alloc ?_ _)); exact BK111.out)) : gb111 ≠ gb118)); have n14_ := Aside0.mk ((by rw [hg]; exact Nat.ne_of_gt (blk_lt (g := gb111) (o := oM) (by (with_reducible repeat (first | refine blk_drewN ?_ _ | refine blk_drew ?_ | refine blk_alloc ?_ _)); exact BK111.out)) : gb118 ≠ gb111)); have n15_ := Aside0.mk ((by rw [hg]; exact Nat.ne_of_lt (blk_lt (g := gb112) (o := .cells #[.map (some gb111)] 58 (0, 0)) (by (with_reducible repeat (first | refine blk_drewN ?_ _ | refine blk_drew ?_ | refine blk_alloc ?_ _)); exact BK112.out)) : gb112 ≠ gb118)); have n16_ := Aside0.mk ((by rw [hg]; exact Nat.ne_of_gt (blk_lt (g := gb112) (o := .cells #[.map (some gb111)] 58 (0, 0)) (by (with_reducible repeat (first | refine blk_drewN ?_ _ | refine blk_drew ?_ | refine blk_alloc ?_ _)); exact BK112.out)) : gb118 ≠ gb112)); have n17_ := Aside0.mk ((by rw [hg]; exact Nat.ne_of_lt (blk_lt (g := gb115) (o := .cells #[.bool x116000_2] 4 (0, 0)) (by (with_reducible repeat (first | refine blk_drewN ?_ _ | refine blk_drew ?_ | refine blk_alloc ?_ _)); exact BK115.out)) : gb115 ≠ gb118)); have n18_ := Aside0.mk ((by rw [hg]; exact Nat.ne_of_gt (blk_lt (g := gb115) (o := .cells #[.bool x116000_2] 4 (0, 0)) (by (with_reducible repeat (first | refine blk_drewN ?_ _ | refine blk_drew ?_ | refine blk_alloc ?_ _)); exact BK115.out)) : gb118 ≠ gb115)); have n19_ := Aside0.mk ((by rw [hg]; exact Nat.ne_of_lt (blk_lt (g := gb116) (o := .cells #[.bool x117000_2] 4 (0, 0)) (by (with_reducible repeat (first | refine blk_drewN ?_ _ | refine blk_drew ?_ | refine blk_alloc ?_ _)); exact BK116.out)) : gb116 ≠ gb118)); have n20_ := Aside0.mk ((by rw [hg]; exact Nat.ne_of_gt (blk_lt (g := gb116) (o := .cells #[.bool x117000_2] 4 (0, 0)) (by (with_reducible repeat (first | refine blk_drewN ?_ _ | refine blk_drew ?_ | refine blk_alloc ?_ _)); exact BK116.out)) : gb118 ≠ gb116)); clear HO_4; clear HO_5; clear BK101; clear BK111; clear BK112; clear BK115; clear BK116; clear HB; have HO_4 := n0_; have HO_5 := n1_; have BK101 := n2_; have BK111 := n3_; have BK112 := n4_; have BK115 := n5_; have BK116 := n6_; have HB := n7_; have BK118 := n8_; have GW118 := n9_; have GE118 := n10_; have NB101_118 := n11_; have NB118_101 := n12_; have NB111_118 := n13_; have NB118_111 := n14_; have NB112_118 := n15_; have NB118_112 := n16_; have NB115_118 := n17_; have NB118_115 := n18_; have NB116_118 := n19_; have NB118_116 := n20_; clear n0_ n1_ n2_ n3_ n4_ n5_ n6_ n7_ n8_ n9_ n10_ n11_ n12_ n13_ n14_ n15_ n16_ n17_ n18_ n19_ n20_; clear hb hbox hg; have hnb48 := NB118_101.out; have hnc48 := NB101_118.out; have hnb49 := NB118_111.out; have hnc49 := NB111_118.out; have hnb50 := NB118_112.out; have hnc50 := NB112_118.out; have hnb51 := NB118_115.out; have hnc51 := NB115_118.out; have hnb52 := NB118_116.out; have hnc52 := NB116_118.out; have hcz53_0 : w47.cell? ⟨gb118, 0, none⟩ = some (.string (⟨#[]⟩ : ByteArray)) := (blk_cell BK118.out 0).trans rfl; have hcz53_1 : w47.cell? ⟨gb118, 1, none⟩ = some (.slice none 0 0) := (blk_cell BK118.out 1).trans rfl; have hcz53_2 : w47.cell? ⟨gb118, 2, none⟩ = some (.int .i64 0) := (blk_cell BK118.out 2).trans rfl; have hcz53_3 : w47.cell? ⟨gb118, 3, none⟩ = some (.slice none 0 0) := (blk_cell BK118.out 3).trans rfl; have hfz53_0 := blk_frozen BK118.out 0; have hfz53_1 := blk_frozen BK118.out 1; have hfz53_2 := blk_frozen BK118.out 2; have hfz53_3 := blk_frozen BK118.out 3) | (go_at_call 20; (with_reducible refine (contains_let.calls _ _ ((rd_T39 l0_0 x45_2).f2) t119 _ ?side1 ?side2 A45.out).mono ?_); (case side1 => exact Kd.C_below HR117_3.out (by repeat (first | (with_reducible first | exact HB.out | apply below_alloc | apply pw_below_drewN | apply below_drew1 | refine below_set ?_ GE101.out | refine below_set ?_ GE111.out | refine below_set ?_ GE112.out | refine below_set ?_ GE115.out | refine below_set ?_ GE116.out | refine below_set ?_ GE118.out) | exact HB.out))); (case side2 => exact HC117_3.out); rintro e w54 ⟨rfl, hb⟩; have n0_ := Aside0.mk (Kd.R_below (by (with_reducible repeat (first | apply Kd.R_alloc | apply Kd.R_drewN | apply Kd.R_drew)); exact (Kd.R_mono (Kd.R_far (p := ⟨gb118, 3, none⟩) (Kd.R_far (p := ⟨gb118, 2, none⟩) (Kd.R_far (p := ⟨gb118, 1, none⟩) (Kd.R_far (p := ⟨gb118, 0, none⟩) (Kd.R_types HO_4.out BK118.out (by decide)) (fun _ hk => hk.2) (.string ((rd_T39 l0_0 x45_2).f0.f0))) (fun _ hk => hk.2) (.slice A117_1 ((rd_T39 l0_0 x45_2).f0.f1).length c117_1)) (fun _ hk => hk.2) (.int .i64 ((rd_T39 l0_0 x45_2).f1))) (fun _ hk => hk.2) (.slice A117_3 ((rd_T39 l0_0 x45_2).f2).length c117_3)) (fun _ h_ => h_.1))) hb); have n1_ := Aside0.mk (Kd.R_below (by (with_reducible repeat (first | apply Kd.R_alloc | apply Kd.R_drewN | apply Kd.R_drew)); exact (Kd.R_mono (Kd.R_far (p := ⟨gb118, 3, none⟩) (Kd.R_far (p := ⟨gb118, 2, none⟩) (Kd.R_far (p := ⟨gb118, 1, none⟩) (Kd.R_far (p := ⟨gb118, 0, none⟩) (Kd.R_types HO_5.out BK118.out (by decide)) (fun _ hk => hk.2) (.string ((rd_T39 l0_0 x45_2).f0.f0))) (fun _ hk => hk.2) (.slice A117_1 ((rd_T39 l0_0 x45_2).f0.f1).length c117_1)) (fun _ hk => hk.2) (.int .i64 ((rd_T39 l0_0 x45_2).f1))) (fun _ hk => hk.2) (.slice A117_3 ((rd_T39 l0_0 x45_2).f2).length c117_3)) (fun _ h_ => h_.1))) hb); have n2_ := Aside0.mk (blk_below (g := gb101) (o := .cells #[.slice (some ad117) l0_0.length c0_0, .string a0_1, .slice A0_2 l0_2.length c0_2] 27 (0, 0)) (by (with_reducible repeat (first | refine blk_drewN ?_ _ | refine blk_drew ?_ | refine blk_alloc ?_ _)); refine blk_far ?_ NB101_118.out _; (with_reducible repeat (first | refine blk_drewN ?_ _ | refine blk_drew ?_ | refine blk_alloc ?_ _)); refine blk_far ?_ NB101_118.out _; (with_reducible repeat (first | refine blk_drewN ?_ _ | refine blk_drew ?_ | refine blk_alloc ?_ _)); refine blk_far ?_ NB101_118.out _; (with_reducible repeat (first | refine blk_drewN ?_ _ | refine blk_drew ?_ | refine blk_alloc ?_ _)); refine blk_far ?_ NB101_118.out _; (with_reducible repeat (first | refine blk_drewN ?_ _ | refine blk_drew ?_ | refine blk_alloc ?_ _)); exact BK101.out) hb); have n3_ := Aside0.mk (blk_below (g := gb111) (o := oM) (by (with_reducible repeat (first | refine blk_drewN ?_ _ | refine blk_drew ?_ | refine blk_alloc ?_ _)); refine obj_far ?_ NB111_118.out _; (with_reducible repeat (first | refine blk_drewN ?_ _ | refine blk_drew ?_ | refine blk_alloc ?_ _)); refine obj_far ?_ NB111_118.out _; (with_reducible repeat (first | refine blk_drewN ?_ _ | refine blk_drew ?_ | refine blk_alloc ?_ _)); refine obj_far ?_ NB111_118.out _; (with_reducible repeat (first | refine blk_drewN ?_ _ | refine blk_drew ?_ | refine blk_alloc ?_ _)); refine obj_far ?_ NB111_118.out _; (with_reducible repeat (first | refine blk_drewN ?_ _ | refine blk_drew ?_ | refine blk_alloc ?_ _)); exact BK111.out) hb); have n4_ := Aside0.mk (blk_below (g := gb112) (o := .cells #[.map (some gb111)] 58 (0, 0)) (by (with_reducible repeat (first | refine blk_drewN ?_ _ | refine blk_drew ?_ | refine blk_alloc ?_ _)); refine blk_far ?_ NB112_118.out _; (with_reducible repeat (first | refine blk_drewN ?_ _ | refine blk_drew ?_ | refine blk_alloc ?_ _)); refine blk_far ?_ NB112_118.out _; (with_reducible repeat (first | refine blk_drewN ?_ _ | refine blk_drew ?_ | refine blk_alloc ?_ _)); refine blk_far ?_ NB112_118.out _; (with_reducible repeat (first | refine blk_drewN ?_ _ | refine blk_drew ?_ | refine blk_alloc ?_ _)); refine blk_far ?_ NB112_118.out _; (with_reducible repeat (first | refine blk_drewN ?_ _ | refine blk_drew ?_ | refine blk_alloc ?_ _)); exact BK112.out) hb); have n5_ := Aside0.mk (blk_below (g := gb115) (o := .cells #[.bool x116000_2] 4 (0, 0)) (by (with_reducible repeat (first | refine blk_drewN ?_ _ | refine blk_drew ?_ | refine blk_alloc ?_ _)); refine blk_far ?_ NB115_118.out _; (with_reducible repeat (first | refine blk_drewN ?_ _ | refine blk_drew ?_ | refine blk_alloc ?_ _)); refine blk_far ?_ NB115_118.out _; (with_reducible repeat (first | refine blk_drewN ?_ _ | refine blk_drew ?_ | refine blk_alloc ?_ _)); refine blk_far ?_ NB115_118.out _; (with_reducible repeat (first | refine blk_drewN ?_ _ | refine blk_drew ?_ | refine blk_alloc ?_ _)); refine blk_far ?_ NB115_118.out _; (with_reducible repeat (first | refine blk_drewN ?_ _ | refine blk_drew ?_ | refine blk_alloc ?_ _)); exact BK115.out) hb); have n6_ := Aside0.mk (blk_below (g := gb116) (o := .cells #[.bool x117000_2] 4 (0, 0)) (by (with_reducible repeat (first | refine blk_drewN ?_ _ | refine blk_drew ?_ | refine blk_alloc ?_ _)); refine blk_far ?_ NB116_118.out _; (with_reducible repeat (first | refine blk_drewN ?_ _ | refine blk_drew ?_ | refine blk_alloc ?_ _)); refine blk_far ?_ NB116_118.out _; (with_reducible repeat (first | refine blk_drewN ?_ _ | refine blk_drew ?_ | refine blk_alloc ?_ _)); refine blk_far ?_ NB116_118.out _; (with_reducible repeat (first | refine blk_drewN ?_ _ | refine blk_drew ?_ | refine blk_alloc ?_ _)); refine blk_far ?_ NB116_118.out _; (with_reducible repeat (first | refine blk_drewN ?_ _ | refine blk_drew ?_ | refine blk_alloc ?_ _)); exact BK116.out) hb); have n7_ := Aside0.mk (blk_below (g := gb118) (o := .cells #[.string ((rd_T39 l0_0 x45_2).f0.f0), .slice A117_1 ((rd_T39 l0_0 x45_2).f0.f1).length c117_1, .int .i64 ((rd_T39 l0_0 x45_2).f1), .slice A117_3 ((rd_T39 l0_0 x45_2).f2).length c117_3] 39 (0, 0)) (by (with_reducible repeat (first | refine blk_drewN ?_ _ | refine blk_drew ?_ | refine blk_alloc ?_ _)); refine blk_put (cs := #[.string ((rd_T39 l0_0 x45_2).f0.f0), .slice A117_1 ((rd_T39 l0_0 x45_2).f0.f1).length c117_1, .int .i64 ((rd_T39 l0_0 x45_2).f1), .slice none 0 0]) ?_ 3 _ rfl; (with_reducible repeat (first | refine blk_drewN ?_ _ | refine blk_drew ?_ | refine blk_alloc ?_ _)); refine blk_put (cs := #[.string ((rd_T39 l0_0 x45_2).f0.f0), .slice A117_1 ((rd_T39 l0_0 x45_2).f0.f1).length c117_1, .int .i64 0, .slice none 0 0]) ?_ 2 _ rfl; (with_reducible repeat (first | refine blk_drewN ?_ _ | refine blk_drew ?_ | refine blk_alloc ?_ _)); refine blk_put (cs := #[.string ((rd_T39 l0_0 x45_2).f0.f0), .slice none 0 0, .int .i64 0, .slice none 0 0]) ?_ 1 _ rfl; (with_reducible repeat (first | refine blk_drewN ?_ _ | refine blk_drew ?_ | refine blk_alloc ?_ _)); refine blk_put (cs := #[.string (⟨#[]⟩ : ByteArray), .slice none 0 0, .int .i64 0, .slice none 0 0]) ?_ 0 _ rfl; (with_reducible repeat (first | refine blk_drewN ?_ _ | refine blk_drew ?_ | refine blk_alloc ?_ _)); exact BK118.out) hb); have n8_ := Aside0.mk (below_step (by repeat (first | (with_reducible first | exact HB.out | apply below_alloc | apply pw_below_drewN | apply below_drew1 | refine below_set ?_ GE101.out | refine below_set ?_ GE111.out | refine below_set ?_ GE112.out | refine below_set ?_ GE115.out | refine below_set ?_ GE116.out | refine below_set ?_ GE118.out) | exact HB.out)) hb); clear HO_4; clear HO_5; clear BK101; clear BK111; clear BK112; clear BK115; clear BK116; clear BK118; clear HB; have HO_4 := n0_; have HO_5 := n1_; have BK101 := n2_; have BK111 := n3_; have BK112 := n4_; have BK115 := n5_; have BK116 := n6_; have BK118 := n7_; have HB := n8_; clear n0_ n1_ n2_ n3_ n4_ n5_ n6_ n7_ n8_; (try clear hb); (try clear hb2); (try clear hk); (try clear hi)) | ((with_reducible refine gate_dst (N := 13) rfl ?_); refine box_event ?hg (N := 13) ?hd (cs := #[.bool false]) (t := 4) ?hr ?_; (case hd => rfl); (case hg => rfl); (case hr => first | (go_simp; done) | (go_simp; rfl)); intro gb120 hg w55 hbox hb; have n0_ := Aside0.mk (Kd.R_below (by (with_reducible repeat (first | apply Kd.R_alloc | apply Kd.R_drewN | apply Kd.R_drew)); exact HO_4.out) hb); have n1_ := Aside0.mk (Kd.R_below (by (with_reducible repeat (first | apply Kd.R_alloc | apply Kd.R_drewN | apply Kd.R_drew)); exact HO_5.out) hb); have n2_ := Aside0.mk (blk_below (g := gb101) (o := .cells #[.slice (some ad117) l0_0.length c0_0, .string a0_1, .slice A0_2 l0_2.length c0_2] 27 (0, 0)) (by (with_reducible repeat (first | refine blk_drewN ?_ _ | refine blk_drew ?_ | refine blk_alloc ?_ _)); exact BK101.out) hb); have n3_ := Aside0.mk (blk_below (g := gb111) (o := oM) (by (with_reducible repeat (first | refine blk_drewN ?_ _ | refine blk_drew ?_ | refine blk_alloc ?_ _)); exact BK111.out) hb); have n4_ := Aside0.mk (blk_below (g := gb112) (o := .cells #[.map (some gb111)] 58 (0, 0)) (by (with_reducible repeat (first | refine blk_drewN ?_ _ | refine blk_drew ?_ | refine blk_alloc ?_ _)); exact BK112.out) hb); have n5_ := Aside0.mk (blk_below (g := gb115) (o := .cells #[.bool x116000_2] 4 (0, 0)) (by (with_reducible repeat (first | refine blk_drewN ?_ _ | refine blk_drew ?_ | refine blk_alloc ?_ _)); exact BK115.out) hb); have n6_ := Aside0.mk (blk_below (g := gb116) (o := .cells #[.bool x117000_2] 4 (0, 0)) (by (with_reducible repeat (first | refine blk_drewN ?_ _ | refine blk_drew ?_ | refine blk_alloc ?_ _)); exact BK116.out) hb); have n7_ := Aside0.mk (blk_below (g := gb118) (o := .cells #[.string ((rd_T39 l0_0 x45_2).f0.f0), .slice A117_1 ((rd_T39 l0_0 x45_2).f0.f1).length c117_1, .int .i64 ((rd_T39 l0_0 x45_2).f1), .slice A117_3 ((rd_T39 l0_0 x45_2).f2).length c117_3] 39 (0, 0)) (by (with_reducible repeat (first | refine blk_drewN ?_ _ | refine blk_drew ?_ | refine blk_alloc ?_ _)); exact BK118.out) hb); have n8_ := Aside0.mk (below_step (by repeat (first | (with_reducible first | exact HB.out | apply below_alloc | apply pw_below_drewN | apply below_drew1 | refine below_set ?_ GE101.out | refine below_set ?_ GE111.out | refine below_set ?_ GE112.out | refine below_set ?_ GE115.out | refine below_set ?_ GE116.out | refine below_set ?_ GE118.out) | exact HB.out)) hb); have n9_ := Aside0.mk (hbox); have n10_ := Aside0.mk ((by rw [hg]; exact (below_size (by repeat (first | (with_reducible first | exact HB.out | apply below_alloc | apply pw_below_drewN | apply below_drew1 | refine below_set ?_ GE101.out | refine below_set ?_ GE111.out | refine below_set ?_ GE112.out | refine below_set ?_ GE115.out | refine below_set ?_ GE116.out | refine below_set ?_ GE118.out) | exact HB.out))) : w.heap.size ≤ gb120)); have n11_ := Aside0.mk ((by rw [hg]; exact (below_size (by repeat (first | (with_reducible first | exact HB.out | apply below_alloc | apply pw_below_drewN | apply below_drew1 | refine below_set ?_ GE101.out | refine below_set ?_ GE111.out | refine below_set ?_ GE112.out | refine below_set ?_ GE115.out | refine below_set ?_ GE116.out | refine below_set ?_ GE118.out) | exact HB.out))) : w.heap.size ≤ gb120)); have n12_ := Aside0.mk ((by rw [hg]; exact Nat.ne_of_lt (blk_lt (g := gb101) (o := .cells #[.slice (some ad117) l0_0.length c0_0, .string a0_1, .slice A0_2 l0_2.length c0_2] 27 (0, 0)) (by (with_reducible repeat (first | refine blk_drewN ?_ _ | refine blk_drew ?_ | refine blk_alloc ?_ _)); exact BK101.out)) : gb101 ≠ gb120)); have n13_ := Aside0.mk ((by rw [hg]; exact Nat.ne_of_gt (blk_lt (g := gb101) (o := .cells #[.slice (some ad117) l0_0.length c0_0, .string a0_1, .slice A0_2 l0_2.length c0_2] 27 (0, 0)) (by (with_reducible repeat (first | refine blk_drewN ?_ _ | refine blk_drew ?_ | refine blk_alloc ?_ _)); exact BK101.out)) : gb120 ≠ gb101)); have n14_ := Aside0.mk ((by rw [hg]; exact Nat.ne_of_lt (blk_lt (g := gb111) (o := oM) (by (with_reducible repeat (first | refine blk_drewN ?_ _ | refine blk_drew ?_ | refine blk_alloc ?_ _)); exact BK111.out)) : gb111 ≠ gb120)); have n15_ := Aside0.mk ((by rw [hg]; exact Nat.ne_of_gt (blk_lt (g := gb111) (o := oM) (by (with_reducible repeat (first | refine blk_drewN ?_ _ | refine blk_drew ?_ | refine blk_alloc ?_ _)); exact BK111.out)) : gb120 ≠ gb111)); have n16_ := Aside0.mk ((by rw [hg]; exact Nat.ne_of_lt (blk_lt (g := gb112) (o := .cells #[.map (some gb111)] 58 (0, 0)) (by (with_reducible repeat (first | refine blk_drewN ?_ _ | refine blk_drew ?_ | refine blk_alloc ?_ _)); exact BK112.out)) : gb112 ≠ gb120)); have n17_ := Aside0.mk ((by rw [hg]; exact Nat.ne_of_gt (blk_lt (g := gb112) (o := .cells #[.map (some gb111)] 58 (0, 0)) (by (with_reducible repeat (first | refine blk_drewN ?_ _ | refine blk_drew ?_ | refine blk_alloc ?_ _)); exact BK112.out)) : gb120 ≠ gb112)); have n18_ := Aside0.mk ((by rw [hg]; exact Nat.ne_of_lt (blk_lt (g := gb115) (o := .cells #[.bool x116000_2] 4 (0, 0)) (by (with_reducible repeat (first | refine blk_drewN ?_ _ | refine blk_drew ?_ | refine blk_alloc ?_ _)); exact BK115.out)) : gb115 ≠ gb120)); have n19_ := Aside0.mk ((by rw [hg]; exact Nat.ne_of_gt (blk_lt (g := gb115) (o := .cells #[.bool x116000_2] 4 (0, 0)) (by (with_reducible repeat (first | refine blk_drewN ?_ _ | refine blk_drew ?_ | refine blk_alloc ?_ _)); exact BK115.out)) : gb120 ≠ gb115)); have n20_ := Aside0.mk ((by rw [hg]; exact Nat.ne_of_lt (blk_lt (g := gb116) (o := .cells #[.bool x117000_2] 4 (0, 0)) (by (with_reducible repeat (first | refine blk_drewN ?_ _ | refine blk_drew ?_ | refine blk_alloc ?_ _)); exact BK116.out)) : gb116 ≠ gb120)); have n21_ := Aside0.mk ((by rw [hg]; exact Nat.ne_of_gt (blk_lt (g := gb116) (o := .cells #[.bool x117000_2] 4 (0, 0)) (by (with_reducible repeat (first | refine blk_drewN ?_ _ | refine blk_drew ?_ | refine blk_alloc ?_ _)); exact BK116.out)) : gb120 ≠ gb116)); have n22_ := Aside0.mk ((by rw [hg]; exact Nat.ne_of_lt (blk_lt (g := gb118) (o := .cells #[.string ((rd_T39 l0_0 x45_2).f0.f0), .slice A117_1 ((rd_T39 l0_0 x45_2).f0.f1).length c117_1, .int .i64 ((rd_T39 l0_0 x45_2).f1), .slice A117_3 ((rd_T39 l0_0 x45_2).f2).length c117_3] 39 (0, 0)) (by (with_reducible repeat (first | refine blk_drewN ?_ _ | refine blk_drew ?_ | refine blk_alloc ?_ _)); exact BK118.out)) : gb118 ≠ gb120)); have n23_ := Aside0.mk ((by rw [hg]; exact Nat.ne_of_gt (blk_lt (g := gb118) (o := .cells #[.string ((rd_T39 l0_0 x45_2).f0.f0), .slice A117_1 ((rd_T39 l0_0 x45_2).f0.f1).length c117_1, .int .i64 ((rd_T39 l0_0 x45_2).f1), .slice A117_3 ((rd_T39 l0_0 x45_2).f2).length c117_3] 39 (0, 0)) (by (with_reducible repeat (first | refine blk_drewN ?_ _ | refine blk_drew ?_ | refine blk_alloc ?_ _)); exact BK118.out)) : gb120 ≠ gb118)); clear HO_4; clear HO_5; clear BK101; clear BK111; clear BK112; clear BK115; clear BK116; clear BK118; clear HB; have HO_4 := n0_; have HO_5 := n1_; have BK101 := n2_; have BK111 := n3_; have BK112 := n4_; have BK115 := n5_; have BK116 := n6_; have BK118 := n7_; have HB := n8_; have BK120 := n9_; have GW120 := n10_; have GE120 := n11_; have NB101_120 := n12_; have NB120_101 := n13_; have NB111_120 := n14_; have NB120_111 := n15_; have NB112_120 := n16_; have NB120_112 := n17_; have NB115_120 := n18_; have NB120_115 := n19_; have NB116_120 := n20_; have NB120_116 := n21_; have NB118_120 := n22_; have NB120_118 := n23_; clear n0_ n1_ n2_ n3_ n4_ n5_ n6_ n7_ n8_ n9_ n10_ n11_ n12_ n13_ n14_ n15_ n16_ n17_ n18_ n19_ n20_ n21_ n22_ n23_; clear hb hbox hg; have hnb56 := NB120_101.out; have hnc56 := NB101_120.out; have hnb57 := NB120_111.out; have hnc57 := NB111_120.out; have hnb58 := NB120_112.out; have hnc58 := NB112_120.out; have hnb59 := NB120_115.out; have hnc59 := NB115_120.out; have hnb60 := NB120_116.out; have hnc60 := NB116_120.out; have hnb61 := NB120_118.out; have hnc61 := NB118_120.out; have hcz62_0 : w55.cell? ⟨gb120, 0, none⟩ = some (.bool false) := (blk_cell BK120.out 0).trans rfl; have hfz62_0 := blk_frozen BK120.out 0; have hcz63_0 : w55.cell? ⟨gb118, 0, none⟩ = some (.string ((rd_T39 l0_0 x45_2).f0.f0)) := (blk_cell BK118.out 0).trans rfl; have hcz63_1 : w55.cell? ⟨gb118, 1, none⟩ = some (.slice A117_1 ((rd_T39 l0_0 x45_2).f0.f1).length c117_1) := (blk_cell BK118.out 1).trans rfl; have hcz63_2 : w55.cell? ⟨gb118, 2, none⟩ = some (.int .i64 ((rd_T39 l0_0 x45_2).f1)) := (blk_cell BK118.out 2).trans rfl; have hcz63_3 : w55.cell? ⟨gb118, 3, none⟩ = some (.slice A117_3 ((rd_T39 l0_0 x45_2).f2).length c117_3) := (blk_cell BK118.out 3).trans rfl; have hfz63_0 := blk_frozen BK118.out 0; have hfz63_1 := blk_frozen BK118.out 1; have hfz63_2 := blk_frozen BK118.out 2; have hfz63_3 := blk_frozen BK118.out 3; have hnb64 := NB112_101.out; have hnc64 := NB101_112.out; have hnb65 := NB112_111.out; have hnc65 := NB111_112.out; have hnb66 := NB112_115.out; have hnc66 := NB115_112.out; have hnb67 := NB112_116.out; have hnc67 := NB116_112.out; have hcz68_0 : w55.cell? ⟨gb112, 0, none⟩ = some (.map (some gb111)) := (blk_cell BK112.out 0).trans rfl; have hfz68_0 := blk_frozen BK112.out 0; have hnb69 := NB111_101.out; have hnc69 := NB101_111.out; have hnb70 := NB111_115.out; have hnc70 := NB115_111.out; have hnb71 := NB111_116.out; have hnc71 := NB116_111.out; have hnb73 := NB115_101.out; have hnc73 := NB101_115.out; have hnb74 := NB115_116.out; have hnc74 := NB116_115.out; have hcz75_0 : w55.cell? ⟨gb115, 0, none⟩ = some (.bool x116000_2) := (blk_cell BK115.out 0).trans rfl; have hfz75_0 := blk_frozen BK115.out 0; have hnb76 := NB116_101.out; have hnc76 := NB101_116.out; have hcz77_0 : w55.cell? ⟨gb116, 0, none⟩ = some (.bool x117000_2) := (blk_cell BK116.out 0).trans rfl; have hfz77_0 := blk_frozen BK116.out 0) | ((with_reducible refine gate_callee (f := 22) rfl ?_); refine goesL_ (some 54) rfl rfl Try.func22 (by kernel_rfl) rfl #[.agg #[.string ((rd_T39 l0_0 x45_2).f0.f0), .slice A117_1 ((rd_T39 l0_0 x45_2).f0.f1).length c117_1, .int .i64 ((rd_T39 l0_0 x45_2).f1), .slice A117_3 ((rd_T39 l0_0 x45_2).f2).length c117_3], .func (.func 23) #[] #[.pointer (some ⟨gb112, 0, none⟩), .pointer (some ⟨gb118, 0, none⟩), .pointer (some ⟨gb115, 0, none⟩), .pointer (some ⟨gb116, 0, none⟩), .pointer (some ⟨gb120, 0, none⟩)]] rfl (by (try simp only [List.map_toArray, List.map_cons, List.map_nil]); first | done | rfl | (simp only [List.length_drop, List.length_take]; rfl)) ?_; (with_reducible refine (each_Strata.calls k2 ((rd_T39 l0_0 x45_2).f0.f0) _ _ ((rd_T39 l0_0 x45_2).f0.f1) ((rd_T39 l0_0 x45_2).f1) _ _ ((rd_T39 l0_0 x45_2).f2) t102 t108 x116000_2 x117000_2 t119 t121 t122 gb112 gb111 gb118 gb115 gb116 gb120 oM w _ ?side1 ?side2 ?side3 ?side4 ?side5 ?side6 ?side7 ?side8 ?side9 ?side10 ?side11 ?side12 ?side13 ?side14 A46.out).mono ?_); (case side1 => exact (by repeat (first | (with_reducible first | exact HB.out | apply below_alloc | apply pw_below_drewN | apply below_drew1 | refine below_set ?_ GE101.out | refine below_set ?_ GE111.out | refine below_set ?_ GE112.out | refine below_set ?_ GE115.out | refine below_set ?_ GE116.out | refine below_set ?_ GE118.out | refine below_set ?_ GE120.out) | exact HB.out))); (case side2 => exact HR117_3.out); (case side3 => exact GE115.out); (case side4 => exact GE116.out); (case side5 => exact NB115_116.out); (case side6 => exact NB120_115.out); (case side7 => exact NB120_116.out); (case side8 => exact HOM.out); (case side9 => exact (by (with_reducible repeat (first | refine blk_drewN ?_ _ | refine blk_drew ?_ | refine blk_alloc ?_ _)); refine blk_far ?_ NB112_120.out _; (with_reducible repeat (first | refine blk_drewN ?_ _ | refine blk_drew ?_ | refine blk_alloc ?_ _)); exact BK112.out)); (case side10 => exact (by (with_reducible repeat (first | refine blk_drewN ?_ _ | refine blk_drew ?_ | refine blk_alloc ?_ _)); refine obj_far ?_ NB111_120.out _; (with_reducible repeat (first | refine blk_drewN ?_ _ | refine blk_drew ?_ | refine blk_alloc ?_ _)); exact BK111.out)); (case side11 => exact (by (with_reducible repeat (first | refine blk_drewN ?_ _ | refine blk_drew ?_ | refine blk_alloc ?_ _)); refine blk_far ?_ NB118_120.out _; (with_reducible repeat (first | refine blk_drewN ?_ _ | refine blk_drew ?_ | refine blk_alloc ?_ _)); exact BK118.out)); (case side12 => exact (by (with_reducible repeat (first | refine blk_drewN ?_ _ | refine blk_drew ?_ | refine blk_alloc ?_ _)); refine blk_far ?_ NB115_120.out _; (with_reducible repeat (first | refine blk_drewN ?_ _ | refine blk_drew ?_ | refine blk_alloc ?_ _)); exact BK115.out)); (case side13 => exact (by (with_reducible repeat (first | refine blk_drewN ?_ _ | refine blk_drew ?_ | refine blk_alloc ?_ _)); refine blk_far ?_ NB116_120.out _; (with_reducible repeat (first | refine blk_drewN ?_ _ | refine blk_drew ?_ | refine blk_alloc ?_ _)); exact BK116.out)); (case side14 => exact (by (with_reducible repeat (first | refine blk_drewN ?_ _ | refine blk_drew ?_ | refine blk_alloc ?_ _)); refine blk_put (cs := #[.bool false]) ?_ 0 _ rfl; (with_reducible repeat (first | refine blk_drewN ?_ _ | refine blk_drew ?_ | refine blk_alloc ?_ _)); exact BK120.out)); rintro e w78 ⟨rfl, hb, q1, q2, q3, q4, q5, q6, hkp⟩; refine ⟨_, rfl, ?_⟩; have n0_ := Aside0.mk (Kd.R_kept6 (a1 := #[.map (some gb111)]) (a3 := #[.string ((rd_T39 l0_0 x45_2).f0.f0), .slice A117_1 ((rd_T39 l0_0 x45_2).f0.f1).length c117_1, .int .i64 ((rd_T39 l0_0 x45_2).f1), .slice A117_3 ((rd_T39 l0_0 x45_2).f2).length c117_3]) (a4 := #[.bool x116000_2]) (a5 := #[.bool x117000_2]) (a6 := #[.bool t119]) (by (with_reducible repeat (first | apply Kd.R_alloc | apply Kd.R_drewN | apply Kd.R_drew)); exact (Kd.R_mono (Kd.R_far (p := ⟨gb120, 0, none⟩) (Kd.R_types HO_4.out BK120.out (by decide)) (fun _ hk => hk.2) (.bool t119)) (fun _ h_ => h_.1))) (by decide) hkp (by (with_reducible repeat (first | refine blk_drewN ?_ _ | refine blk_drew ?_ | refine blk_alloc ?_ _)); refine blk_far ?_ NB112_120.out _; (with_reducible repeat (first | refine blk_drewN ?_ _ | refine blk_drew ?_ | refine blk_alloc ?_ _)); exact BK112.out) (by (with_reducible repeat (first | refine blk_drewN ?_ _ | refine blk_drew ?_ | refine blk_alloc ?_ _)); refine obj_far ?_ NB111_120.out _; (with_reducible repeat (first | refine blk_drewN ?_ _ | refine blk_drew ?_ | refine blk_alloc ?_ _)); exact BK111.out) (by (with_reducible repeat (first | refine blk_drewN ?_ _ | refine blk_drew ?_ | refine blk_alloc ?_ _)); refine blk_far ?_ NB118_120.out _; (with_reducible repeat (first | refine blk_drewN ?_ _ | refine blk_drew ?_ | refine blk_alloc ?_ _)); exact BK118.out) (by (with_reducible repeat (first | refine blk_drewN ?_ _ | refine blk_drew ?_ | refine blk_alloc ?_ _)); refine blk_far ?_ NB115_120.out _; (with_reducible repeat (first | refine blk_drewN ?_ _ | refine blk_drew ?_ | refine blk_alloc ?_ _)); exact BK115.out) (by (with_reducible repeat (first | refine blk_drewN ?_ _ | refine blk_drew ?_ | refine blk_alloc ?_ _)); refine blk_far ?_ NB116_120.out _; (with_reducible repeat (first | refine blk_drewN ?_ _ | refine blk_drew ?_ | refine blk_alloc ?_ _)); exact BK116.out) (by (with_reducible repeat (first | refine blk_drewN ?_ _ | refine blk_drew ?_ | refine blk_alloc ?_ _)); refine blk_put (cs := #[.bool false]) ?_ 0 _ rfl; (with_reducible repeat (first | refine blk_drewN ?_ _ | refine blk_drew ?_ | refine blk_alloc ?_ _)); exact BK120.out) HNC.out); have n1_ := Aside0.mk (Kd.R_kept6 (a1 := #[.map (some gb111)]) (a3 := #[.string ((rd_T39 l0_0 x45_2).f0.f0), .slice A117_1 ((rd_T39 l0_0 x45_2).f0.f1).length c117_1, .int .i64 ((rd_T39 l0_0 x45_2).f1), .slice A117_3 ((rd_T39 l0_0 x45_2).f2).length c117_3]) (a4 := #[.bool x116000_2]) (a5 := #[.bool x117000_2]) (a6 := #[.bool t119]) (by (with_reducible repeat (first | apply Kd.R_alloc | apply Kd.R_drewN | apply Kd.R_drew)); exact (Kd.R_mono (Kd.R_far (p := ⟨gb120, 0, none⟩) (Kd.R_types HO_5.out BK120.out (by decide)) (fun _ hk => hk.2) (.bool t119)) (fun _ h_ => h_.1))) (by decide) hkp (by (with_reducible repeat (first | refine blk_drewN ?_ _ | refine blk_drew ?_ | refine blk_alloc ?_ _)); refine blk_far ?_ NB112_120.out _; (with_reducible repeat (first | refine blk_drewN ?_ _ | refine blk_drew ?_ | refine blk_alloc ?_ _)); exact BK112.out) (by (with_reducible repeat (first | refine blk_drewN ?_ _ | refine blk_drew ?_ | refine blk_alloc ?_ _)); refine obj_far ?_ NB111_120.out _; (with_reducible repeat (first | refine blk_drewN ?_ _ | refine blk_drew ?_ | refine blk_alloc ?_ _)); exact BK111.out) (by (with_reducible repeat (first | refine blk_drewN ?_ _ | refine blk_drew ?_ | refine blk_alloc ?_ _)); refine blk_far ?_ NB118_120.out _; (with_reducible repeat (first | refine blk_drewN ?_ _ | refine blk_drew ?_ | refine blk_alloc ?_ _)); exact BK118.out) (by (with_reducible repeat (first | refine blk_drewN ?_ _ | refine blk_drew ?_ | refine blk_alloc ?_ _)); refine blk_far ?_ NB115_120.out _; (with_reducible repeat (first | refine blk_drewN ?_ _ | refine blk_drew ?_ | refine blk_alloc ?_ _)); exact BK115.out) (by (with_reducible repeat (first | refine blk_drewN ?_ _ | refine blk_drew ?_ | refine blk_alloc ?_ _)); refine blk_far ?_ NB116_120.out _; (with_reducible repeat (first | refine blk_drewN ?_ _ | refine blk_drew ?_ | refine blk_alloc ?_ _)); exact BK116.out) (by (with_reducible repeat (first | refine blk_drewN ?_ _ | refine blk_drew ?_ | refine blk_alloc ?_ _)); refine blk_put (cs := #[.bool false]) ?_ 0 _ rfl; (with_reducible repeat (first | refine blk_drewN ?_ _ | refine blk_drew ?_ | refine blk_alloc ?_ _)); exact BK120.out) HNC.out); have n2_ := Aside0.mk (blk_kept (blk_far (p := ⟨gb120, 0, none⟩) BK101.out NB101_120.out _) hkp (fun hs_ => hs_.elim (fun e_ => NB101_112.out e_) (fun hs_ => hs_.elim (fun e_ => NB101_111.out e_) (fun hs_ => hs_.elim (fun e_ => NB101_118.out e_) (fun hs_ => hs_.elim (fun e_ => NB101_115.out e_) (fun hs_ => hs_.elim (fun e_ => NB101_116.out e_) (fun e_ => NB101_120.out e_))))))); have n3_ := Aside0.mk q1; have n4_ := Aside0.mk q2; have n5_ := Aside0.mk q3; have n6_ := Aside0.mk q4; have n7_ := Aside0.mk q5; have n8_ := Aside0.mk q6; have n9_ := Aside0.mk hb; clear HO_4 HO_5 BK101 BK111 BK112 BK115 BK116 BK118 BK120 HB; have HO_4 := n0_; have HO_5 := n1_; have BK101 := n2_; have BK112 := n3_; have BK111 := n4_; have BK118 := n5_; have BK115 := n6_; have BK116 := n7_; have BK120 := n8_; have HB := n9_; clear n0_ n1_ n2_ n3_ n4_ n5_ n6_ n7_ n8_ n9_ q1 q2 q3 q4 q5 q6; (try clear hb); (try clear hkp)))
  go_wp2
  repeat (go_quiet (fail); try go_wp2)
  go_roundg k2
  case measure => have := HK1.out; have := HK2.out; omega
  case rel => exact ⟨(wrap64 (x45_2 + 1)), (t121), (t122), (by first | rfl | (simp; done) | (simp [*]; done)), H', ⟨by have := HK1.out; have := HK2.out; omega⟩, ⟨Kd.R_mono HO_4.out (fun _ _ => trivial)⟩, HO_5, BK101, BK111, BK112, BK115, BK116, HB⟩
 rw [if_neg c42] at H
 have c42b0 := decide_eq_false c42
 clear c42
 by_cases c81 : x116000_2 = true
 case pos =>
  subst c81
  rw [if_pos rfl] at H
  simp only [Option.some.injEq, Prod.mk.injEq] at H
  obtain ⟨rfl, rfl⟩ := H
  have hnb82 := NB115_101.out
  have hnc82 := NB101_115.out
  have hnb83 := NB115_111.out
  have hnc83 := NB111_115.out
  have hnb84 := NB115_112.out
  have hnc84 := NB112_115.out
  have hnb85 := NB115_116.out
  have hnc85 := NB116_115.out
  have hcz86_0 : wr.cell? ⟨gb115, 0, none⟩ = some (.bool true) := (blk_cell BK115.out 0).trans rfl
  have hfz86_0 := blk_frozen BK115.out 0
  go_wp2
  go_wp2
  repeat (go_quiet (fail); try go_wp2)
  go_ret2
  exact ⟨_, by first | rfl | (simp [errW_none, errW_some] <;> rfl) | (simp [*, errW_none, errW_some] <;> rfl), by first | exact Kd.S_nil _ _ _ _ _ | exact Kd.N_nil _ _ _ _ _ | exact Kd.V_nil _ _ _ _ _ | exact Kd.Q_nil _ _ _ _ _ | exact Kd.R_nil _ _ _ _ _, by repeat (first | (with_reducible first | exact HB.out | apply below_alloc | apply pw_below_drewN | apply below_drew1 | refine below_set ?_ GE101.out | refine below_set ?_ GE111.out | refine below_set ?_ GE112.out | refine below_set ?_ GE115.out | refine below_set ?_ GE116.out) | exact HB.out)⟩
 replace c81 := Bool.eq_false_iff.mpr c81
 subst c81
 rw [if_neg (show ¬ (false = true) by decide)] at H
 by_cases c87 : x117000_2 = true
 case pos =>
  subst c87
  rw [if_pos rfl] at H
  simp only [Option.some.injEq, Prod.mk.injEq] at H
  obtain ⟨rfl, rfl⟩ := H
  have hnb88 := NB115_101.out
  have hnc88 := NB101_115.out
  have hnb89 := NB115_111.out
  have hnc89 := NB111_115.out
  have hnb90 := NB115_112.out
  have hnc90 := NB112_115.out
  have hnb91 := NB115_116.out
  have hnc91 := NB116_115.out
  have hcz92_0 : wr.cell? ⟨gb115, 0, none⟩ = some (.bool false) := (blk_cell BK115.out 0).trans rfl
  have hfz92_0 := blk_frozen BK115.out 0
  have hnb93 := NB116_101.out
  have hnc93 := NB101_116.out
  have hnb94 := NB116_111.out
  have hnc94 := NB111_116.out
  have hnb95 := NB116_112.out
  have hnc95 := NB112_116.out
  have hcz96_0 : wr.cell? ⟨gb116, 0, none⟩ = some (.bool true) := (blk_cell BK116.out 0).trans rfl
  have hfz96_0 := blk_frozen BK116.out 0
  go_wp2
  go_wp2
  repeat (go_quiet (fail); try go_wp2)
  go_ret2
  exact ⟨_, by first | rfl | (simp [errW_none, errW_some] <;> rfl) | (simp [*, errW_none, errW_some] <;> rfl), by first | exact Kd.S_nil _ _ _ _ _ | exact Kd.N_nil _ _ _ _ _ | exact Kd.V_nil _ _ _ _ _ | exact Kd.Q_nil _ _ _ _ _ | exact Kd.R_nil _ _ _ _ _, by repeat (first | (with_reducible first | exact HB.out | apply below_alloc | apply pw_below_drewN | apply below_drew1 | refine below_set ?_ GE101.out | refine below_set ?_ GE111.out | refine below_set ?_ GE112.out | refine below_set ?_ GE115.out | refine below_set ?_ GE116.out) | exact HB.out)⟩
 replace c87 := Bool.eq_false_iff.mpr c87
 subst c87
 rw [if_neg (show ¬ (false = true) by decide)] at H
 replace H := Option.bind_eq_some_iff.mp H
 obtain ⟨t123, A970, H⟩ := H
 have A97 := Aside0.mk A970
 clear A970
 have H' := Aside0.mk H
 clear H
 have hnb98 := NB115_101.out
 have hnc98 := NB101_115.out
 have hnb99 := NB115_111.out
 have hnc99 := NB111_115.out
 have hnb100 := NB115_112.out
 have hnc100 := NB112_115.out
 have hnb101 := NB115_116.out
 have hnc101 := NB116_115.out
 have hcz102_0 : wr.cell? ⟨gb115, 0, none⟩ = some (.bool false) := (blk_cell BK115.out 0).trans rfl
 have hfz102_0 := blk_frozen BK115.out 0
 have hnb103 := NB116_101.out
 have hnc103 := NB101_116.out
 have hnb104 := NB116_111.out
 have hnc104 := NB111_116.out
 have hnb105 := NB116_112.out
 have hnc105 := NB112_116.out
 have hcz106_0 : wr.cell? ⟨gb116, 0, none⟩ = some (.bool false) := (blk_cell BK116.out 0).trans rfl
 have hfz106_0 := blk_frozen BK116.out 0
 obtain ⟨Ao107, co107, eo107⟩ := Kd.R_slice HO_5.out
 subst eo107
 go_wp2_with (first | ((with_reducible refine gate_callee (f := 24) rfl ?_); refine goesL_ (some 61) rfl rfl Try.func24 (by kernel_rfl) rfl #[.slice Ao107 t108.length co107] rfl (by (try simp only [List.map_toArray, List.map_cons, List.map_nil]); first | done | rfl | (simp only [List.length_drop, List.length_take]; rfl)) ?_; (with_reducible refine (comps_Lists.calls k2 _ _ t108 t123 _ ?side1 ?side2 A97.out).mono ?_); (case side1 => repeat (first | exact (Kd.R_reads' HO_5.out).2.2 | (with_reducible refine Kd.C_alloc ?_ _) | (with_reducible refine Kd.C_drewN ?_ _) | (with_reducible refine Kd.C_drew ?_))); (case side2 => exact (Kd.R_reads' HO_5.out).2.1); rintro e w108 ⟨v124, rfl, ho0, hb⟩; refine ⟨_, rfl, ?_⟩; have n0_ := Aside0.mk (Kd.R_below (by (with_reducible repeat (first | apply Kd.R_alloc | apply Kd.R_drewN | apply Kd.R_drew)); exact HO_4.out) hb); have n1_ := Aside0.mk (Kd.R_below (by (with_reducible repeat (first | apply Kd.R_alloc | apply Kd.R_drewN | apply Kd.R_drew)); exact HO_5.out) hb); have n2_ := Aside0.mk (Kd.S_lower (Kd.S_newB (Kd.S_newB (Kd.S_new' ho0 (Kd.R_lt (by (with_reducible repeat (first | apply Kd.R_alloc | apply Kd.R_drewN | apply Kd.R_drew)); exact HO_5.out))) (g := gb111) (o := oM) (by (with_reducible repeat (first | refine blk_drewN ?_ _ | refine blk_drew ?_ | refine blk_alloc ?_ _)); exact BK111.out)) (g := gb112) (o := .cells #[.map (some gb111)] 58 (0, 0)) (by (with_reducible repeat (first | refine blk_drewN ?_ _ | refine blk_drew ?_ | refine blk_alloc ?_ _)); exact BK112.out)) (below_size (by repeat (first | (with_reducible first | exact HB.out | apply below_alloc | apply pw_below_drewN | apply below_drew1 | refine below_set ?_ GE101.out | refine below_set ?_ GE111.out | refine below_set ?_ GE112.out | refine below_set ?_ GE115.out | refine below_set ?_ GE116.out) | exact HB.out)))); have n3_ := Aside0.mk (blk_below (g := gb101) (o := .cells #[.slice A0_0 l0_0.length c0_0, .string a0_1, .slice A0_2 l0_2.length c0_2] 27 (0, 0)) (by (with_reducible repeat (first | refine blk_drewN ?_ _ | refine blk_drew ?_ | refine blk_alloc ?_ _)); exact BK101.out) hb); have n4_ := Aside0.mk (blk_below (g := gb111) (o := oM) (by (with_reducible repeat (first | refine blk_drewN ?_ _ | refine blk_drew ?_ | refine blk_alloc ?_ _)); exact BK111.out) hb); have n5_ := Aside0.mk (blk_below (g := gb112) (o := .cells #[.map (some gb111)] 58 (0, 0)) (by (with_reducible repeat (first | refine blk_drewN ?_ _ | refine blk_drew ?_ | refine blk_alloc ?_ _)); exact BK112.out) hb); have n6_ := Aside0.mk (blk_below (g := gb115) (o := .cells #[.bool false] 4 (0, 0)) (by (with_reducible repeat (first | refine blk_drewN ?_ _ | refine blk_drew ?_ | refine blk_alloc ?_ _)); exact BK115.out) hb); have n7_ := Aside0.mk (blk_below (g := gb116) (o := .cells #[.bool false] 4 (0, 0)) (by (with_reducible repeat (first | refine blk_drewN ?_ _ | refine blk_drew ?_ | refine blk_alloc ?_ _)); exact BK116.out) hb); have n8_ := Aside0.mk (below_step (by repeat (first | (with_reducible first | exact HB.out | apply below_alloc | apply pw_below_drewN | apply below_drew1 | refine below_set ?_ GE101.out | refine below_set ?_ GE111.out | refine below_set ?_ GE112.out | refine below_set ?_ GE115.out | refine below_set ?_ GE116.out) | exact HB.out)) hb); clear HO_4; clear HO_5; clear BK101; clear BK111; clear BK112; clear BK115; clear BK116; clear HB; have HO_4 := n0_; have HO_5 := n1_; have HO125 := n2_; have BK101 := n3_; have BK111 := n4_; have BK112 := n5_; have BK115 := n6_; have BK116 := n7_; have HB := n8_; clear n0_ n1_ n2_ n3_ n4_ n5_ n6_ n7_ n8_; (try clear hb); (try clear hb2); (try clear hk); (try clear hi); (try clear ho0); obtain ⟨Ao109, co109, eo109⟩ := Kd.S_slice HO125.out; subst eo109))
 go_wp2
 repeat (go_quiet (fail); try go_wp2)
 go_loopg [14, 63] k2 (fun kq v14 v63 w' => ∃ (x14_3 : List (List ByteArray)) (x63_3 : Int), v63 = .int .i64 x63_3 ∧ Aside0 (strata_Strata.l2 kq t102 x14_3 t123 (t123.length : Int) x63_3 = some (r1, r2)) ∧ Aside0 (kq ≤ k2) ∧ Aside0 (Kd.R Kd.string 9 w' w.heap.size (fun _ => True) (.slice Ao8 t102.length co8) t102) ∧ Aside0 (Kd.S (Kd.slice 9 Kd.string) 34 w' w.heap.size (fun k_ => some k_ ≠ ((.slice Ao8 t102.length co8) : Value).ownBlock) v14 x14_3) ∧ Aside0 (Kd.S (Kd.slice 3 (Kd.int .i64)) 56 w' w.heap.size (fun k_ => k_ ≠ gb111 ∧ k_ ≠ gb112) (.slice Ao109 t123.length co109) t123) ∧ Aside0 (w'.heap[gb101]? = some (.cells #[(.slice A0_0 l0_0.length c0_0), .string a0_1, (.slice A0_2 l0_2.length c0_2)] 27 (0, 0))) ∧ Aside0 (w'.heap[gb111]? = some oM) ∧ Aside0 (w'.heap[gb112]? = some (.cells #[.map (some gb111)] 58 (0, 0))) ∧ Aside0 (w'.heap[gb115]? = some (.cells #[.bool false] 4 (0, 0))) ∧ Aside0 (w'.heap[gb116]? = some (.cells #[.bool false] 4 (0, 0))) ∧ Aside0 (Below w.heap.size w w'))
 case atStart => exact ⟨(([] : List (List ByteArray))), (0), (by first | rfl | (simp; done) | (simp [*]; done)), H', ⟨Nat.le_refl _⟩, ⟨by (with_reducible repeat (first | apply Kd.R_alloc | apply Kd.R_drewN | apply Kd.R_drew)); exact HO_4.out⟩, ⟨by first | exact Kd.S_nil _ _ _ _ _ | exact Kd.N_nil _ _ _ _ _ | exact Kd.V_nil _ _ _ _ _ | exact Kd.Q_nil _ _ _ _ _ | exact Kd.R_nil _ _ _ _ _⟩, ⟨by (with_reducible repeat (first | apply Kd.S_alloc | apply Kd.S_drewN | apply Kd.S_drew)); exact Kd.S_mono HO125.out (fun _ hk => ⟨hk.1.2, hk.2⟩)⟩, ⟨by (with_reducible repeat (first | refine blk_drewN ?_ _ | refine blk_drew ?_ | refine blk_alloc ?_ _)); exact BK101.out⟩, ⟨by (with_reducible repeat (first | refine blk_drewN ?_ _ | refine blk_drew ?_ | refine blk_alloc ?_ _)); exact BK111.out⟩, ⟨by (with_reducible repeat (first | refine blk_drewN ?_ _ | refine blk_drew ?_ | refine blk_alloc ?_ _)); exact BK112.out⟩, ⟨by (with_reducible repeat (first | refine blk_drewN ?_ _ | refine blk_drew ?_ | refine blk_alloc ?_ _)); exact BK115.out⟩, ⟨by (with_reducible repeat (first | refine blk_drewN ?_ _ | refine blk_drew ?_ | refine blk_alloc ?_ _)); exact BK116.out⟩, ⟨by repeat (first | (with_reducible first | exact HB.out | apply below_alloc | apply pw_below_drewN | apply below_drew1 | refine below_set ?_ GE101.out | refine below_set ?_ GE111.out | refine below_set ?_ GE112.out | refine below_set ?_ GE115.out | refine below_set ?_ GE116.out) | exact HB.out)⟩⟩
 clear H'
 try clear c1
 try clear p1
 try clear q1
 try clear hx1
 try clear c2
 try clear p2
 try clear c3
 try clear c4
 try clear c5
 try clear c6
 try clear p6
 try clear c7
 try clear c8
 try clear c9
 try clear c10
 try clear c11
 try clear p11
 try clear q11
 try clear hx11
 try clear c15
 try clear c16
 try clear c18
 try clear c18b0
 try clear c19
 try clear c19b0
 try clear c20
 try clear c20b0
 try clear c21
 try clear c21b0
 try clear c22
 try clear c23
 try clear c24
 try clear c26
 try clear c30
 try clear c31
 try clear c32
 try clear c33
 try clear c35
 try clear c36
 try clear c37
 try clear c39
 try clear c40
 try clear c42
 try clear c42b0
 try clear c43
 try clear c43b0
 try clear c44
 try clear c44b0
 try clear c48
 try clear c49
 try clear c50
 try clear c51
 try clear c52
 try clear c56
 try clear c57
 try clear c58
 try clear c59
 try clear c60
 try clear c61
 try clear c64
 try clear p64
 try clear c65
 try clear c66
 try clear c67
 try clear c69
 try clear c70
 try clear c71
 try clear c73
 try clear c74
 try clear c76
 try clear c81
 try clear c82
 try clear c83
 try clear c84
 try clear c85
 try clear c87
 try clear c88
 try clear c89
 try clear c90
 try clear c91
 try clear c93
 try clear c94
 try clear c95
 try clear c98
 try clear c99
 try clear c100
 try clear c101
 try clear c103
 try clear c104
 try clear c105
 try clear hcz102_0
 try clear hcz106_0
 try clear hcz17_0
 try clear hcz24_0
 try clear hcz27_0
 try clear hcz34_0
 try clear hcz38_0
 try clear hcz41_0
 try clear hcz41_1
 try clear hcz41_2
 try clear hcz53_0
 try clear hcz53_1
 try clear hcz53_2
 try clear hcz53_3
 try clear hcz62_0
 try clear hcz63_0
 try clear hcz63_1
 try clear hcz63_2
 try clear hcz63_3
 try clear hcz68_0
 try clear hcz6_0
 try clear hcz6_1
 try clear hcz6_2
 try clear hcz72_0
 try clear hcz75_0
 try clear hcz77_0
 try clear hcz79_0
 try clear hcz80_0
 try clear hcz86_0
 try clear hcz92_0
 try clear hcz96_0
 try clear hcz9_0
 try clear hcz9_1
 try clear hcz9_2
 try clear hfz102_0
 try clear hfz106_0
 try clear hfz17_0
 try clear hfz24_0
 try clear hfz27_0
 try clear hfz34_0
 try clear hfz38_0
 try clear hfz41_0
 try clear hfz41_1
 try clear hfz41_2
 try clear hfz53_0
 try clear hfz53_1
 try clear hfz53_2
 try clear hfz53_3
 try clear hfz62_0
 try clear hfz63_0
 try clear hfz63_1
 try clear hfz63_2
 try clear hfz63_3
 try clear hfz68_0
 try clear hfz6_0
 try clear hfz6_1
 try clear hfz6_2
 try clear hfz72_0
 try clear hfz75_0
 try clear hfz77_0
 try clear hfz79_0
 try clear hfz80_0
 try clear hfz86_0
 try clear hfz92_0
 try clear hfz96_0
 try clear hfz9_0
 try clear hfz9_1
 try clear hfz9_2
 try clear hx113_0
 try clear hx114_0
 try clear hx117_0
 try clear hx117_1
 try clear hx117_2
 try clear hx117_3
 try clear p1
 try clear p11
 try clear p113
 try clear p114
 try clear p117
 try clear p2
 try clear p6
 try clear q1
 try clear q11
 try clear q113
 try clear q114
 try clear q117
 obtain ⟨x14_3, x63_3, rfl, HA, HK3, HO_4, HO_14, HO_61, BK101, BK111, BK112, BK115, BK116, HB⟩ := hrel
 obtain _ | k3 := gk
 · exact absurd HA.out (by simp [strata_Strata.l2])
 have H := HA.out
 clear HA
 simp only [strata_Strata.l2] at H
 by_cases c110 : x63_3 < (t123.length : Int)
 case neg =>
  rw [if_neg c110] at H
  have c110b0 := decide_eq_false c110
  clear c110
  simp only [Option.some.injEq, Prod.mk.injEq] at H
  obtain ⟨rfl, rfl⟩ := H
  go_wp2
  go_wp2
  repeat (go_quiet (fail); try go_wp2)
  go_ret2
  exact ⟨_, by first | rfl | (simp [errW_none, errW_some] <;> rfl) | (simp [*, errW_none, errW_some] <;> rfl), by (with_reducible repeat (first | apply Kd.S_alloc | apply Kd.S_drewN | apply Kd.S_drew)); exact Kd.S_mono HO_14.out (fun _ hk => trivial), by repeat (first | (with_reducible first | exact HB.out | apply below_alloc | apply pw_below_drewN | apply below_drew1 | refine below_set ?_ GE101.out | refine below_set ?_ GE111.out | refine below_set ?_ GE112.out | refine below_set ?_ GE115.out | refine below_set ?_ GE116.out) | exact HB.out)⟩
 rw [if_pos c110] at H
 have c110b0 := decide_eq_true c110
 clear c110
 by_cases c111 : 0 ≤ x63_3
 case neg => rw [if_neg c111] at H; exact absurd H (by simp)
 rw [if_pos c111] at H
 have c111b0 := decide_eq_true c111
 clear c111
 by_cases c112 : x63_3 < (t123.length : Int)
 case neg => rw [if_neg c112] at H; exact absurd H (by simp)
 rw [if_pos c112] at H
 have c112b0 := decide_eq_true c112
 clear c112
 have H' := Aside0.mk H
 clear H
 have p126 : 0 ≤ (x63_3 : Int) := of_decide_eq_true (by with_reducible assumption)
 have q126 : x63_3 < (t123.length : Int) := of_decide_eq_true (by with_reducible assumption)
 obtain ⟨ad126, A126_0, c126_0, e126, hx126_0, hl126_0, hi126_0⟩ := at_L7 (Kd.S_reads' HO_61.out).2.2 x63_3 p126 q126
 cases e126
 obtain ⟨ce126, hce126, hMe126, hcc126⟩ := Kd.S_get HO_61.out [] x63_3 p126 (by first | exact q126 | exact of_decide_eq_true (by with_reducible assumption) | (have e_ := (Kd.S_reads' HO_61.out).1; omega))
 obtain ⟨ve126_0, rfl, ge126_0⟩ := hMe126
 have hv126_0 := hcc126 0 _ rfl
 rw [Nat.add_zero, show ((Kd.slice 3 (Kd.int .i64))).sz = 1 from rfl, Nat.mul_one] at hv126_0
 replace hv126_0 := Option.some.inj (hv126_0.symm.trans hx126_0)
 rw [hv126_0] at ge126_0
 have HL126_0 := Aside0.mk (show Kd.R (Kd.int .i64) 3 _ _ _ _ (rd_L7 t123 x63_3) from ge126_0)
 clear hv126_0 ge126_0
 clear hcc126 hce126
 have HR126_0 := Aside0.mk hi126_0
 have HC126_0 := Aside0.mk hl126_0
 clear hi126_0 hl126_0
 replace p126 := eq_true p126
 replace q126 := eq_true q126
 go_wp2
 go_wp2
 repeat (go_quiet (fail); try go_wp2)
 go_loopg [17, 69] k3 (fun kq v17 v69 w' => ∃ (x17_4 : List ByteArray) (x69_4 : Int), v69 = .int .i64 x69_4 ∧ Aside0 (strata_Strata.l3 kq t102 x14_3 x17_4 t123 (t123.length : Int) x63_3 (rd_L7 t123 x63_3) ((rd_L7 t123 x63_3).length : Int) x69_4 = some (r1, r2)) ∧ Aside0 (kq ≤ k3) ∧ Aside0 (Kd.R Kd.string 9 w' w.heap.size (fun k_ => some k_ ≠ (v17 : Value).ownBlock) (.slice Ao8 t102.length co8) t102) ∧ Aside0 (Kd.S (Kd.slice 9 Kd.string) 34 w' w.heap.size (fun k_ => some k_ ≠ ((.slice Ao8 t102.length co8) : Value).ownBlock ∧ some k_ ≠ (v17 : Value).ownBlock) u14 x14_3) ∧ Aside0 (Kd.R Kd.string 9 w' w.heap.size (fun k_ => some k_ ≠ ((.slice Ao8 t102.length co8) : Value).ownBlock) v17 x17_4) ∧ Aside0 (Kd.S (Kd.slice 3 (Kd.int .i64)) 56 w' w.heap.size (fun k_ => k_ ≠ gb111 ∧ k_ ≠ gb112) (.slice (some ad126) t123.length co109) t123) ∧ Aside0 (Kd.R (Kd.int .i64) 3 w' w.heap.size (fun _ => True) (.slice A126_0 (rd_L7 t123 x63_3).length c126_0) (rd_L7 t123 x63_3)) ∧ Aside0 (w'.heap[gb101]? = some (.cells #[(.slice A0_0 l0_0.length c0_0), .string a0_1, (.slice A0_2 l0_2.length c0_2)] 27 (0, 0))) ∧ Aside0 (w'.heap[gb111]? = some oM) ∧ Aside0 (w'.heap[gb112]? = some (.cells #[.map (some gb111)] 58 (0, 0))) ∧ Aside0 (w'.heap[gb115]? = some (.cells #[.bool false] 4 (0, 0))) ∧ Aside0 (w'.heap[gb116]? = some (.cells #[.bool false] 4 (0, 0))) ∧ Aside0 (Below w.heap.size w w'))
 case atStart => exact ⟨(([] : List ByteArray)), (0), (by first | rfl | (simp; done) | (simp [*]; done)), H', ⟨Nat.le_refl _⟩, ⟨by (with_reducible repeat (first | apply Kd.R_alloc | apply Kd.R_drewN | apply Kd.R_drew)); exact Kd.R_mono HO_4.out (fun _ hk => (by simp [Value.ownBlock]))⟩, ⟨by (with_reducible repeat (first | apply Kd.S_alloc | apply Kd.S_drewN | apply Kd.S_drew)); exact Kd.S_mono HO_14.out (fun _ hk => ⟨hk, (by simp [Value.ownBlock])⟩)⟩, ⟨by first | exact Kd.R_nil _ _ _ _ _ | exact Kd.N_nil _ _ _ _ _ | exact Kd.V_nil _ _ _ _ _ | exact Kd.Q_nil _ _ _ _ _ | exact Kd.S_nil _ _ _ _ _⟩, ⟨by (with_reducible repeat (first | apply Kd.S_alloc | apply Kd.S_drewN | apply Kd.S_drew)); exact HO_61.out⟩, ⟨by (with_reducible repeat (first | apply Kd.R_alloc | apply Kd.R_drewN | apply Kd.R_drew)); exact Kd.R_mono HL126_0.out (fun _ _ => trivial)⟩, ⟨by (with_reducible repeat (first | refine blk_drewN ?_ _ | refine blk_drew ?_ | refine blk_alloc ?_ _)); exact BK101.out⟩, ⟨by (with_reducible repeat (first | refine blk_drewN ?_ _ | refine blk_drew ?_ | refine blk_alloc ?_ _)); exact BK111.out⟩, ⟨by (with_reducible repeat (first | refine blk_drewN ?_ _ | refine blk_drew ?_ | refine blk_alloc ?_ _)); exact BK112.out⟩, ⟨by (with_reducible repeat (first | refine blk_drewN ?_ _ | refine blk_drew ?_ | refine blk_alloc ?_ _)); exact BK115.out⟩, ⟨by (with_reducible repeat (first | refine blk_drewN ?_ _ | refine blk_drew ?_ | refine blk_alloc ?_ _)); exact BK116.out⟩, ⟨by repeat (first | (with_reducible first | exact HB.out | apply below_alloc | apply pw_below_drewN | apply below_drew1 | refine below_set ?_ GE101.out | refine below_set ?_ GE111.out | refine below_set ?_ GE112.out | refine below_set ?_ GE115.out | refine below_set ?_ GE116.out) | exact HB.out)⟩⟩
 clear H'
 try clear c1
 try clear p1
 try clear q1
 try clear hx1
 try clear c2
 try clear p2
 try clear c3
 try clear c4
 try clear c5
 try clear c6
 try clear p6
 try clear c7
 try clear c8
 try clear c9
 try clear c10
 try clear c11
 try clear p11
 try clear q11
 try clear hx11
 try clear c12
 try clear p12
 try clear q12
 try clear hx12
 try clear c15
 try clear c16
 try clear c18
 try clear c18b0
 try clear c19
 try clear c19b0
 try clear c20
 try clear c20b0
 try clear c21
 try clear c21b0
 try clear c22
 try clear c23
 try clear c24
 try clear c26
 try clear c30
 try clear c31
 try clear c32
 try clear c33
 try clear c35
 try clear c36
 try clear c37
 try clear c39
 try clear c40
 try clear c42
 try clear c42b0
 try clear c43
 try clear c43b0
 try clear c44
 try clear c44b0
 try clear c48
 try clear c49
 try clear c50
 try clear c51
 try clear c52
 try clear c56
 try clear c57
 try clear c58
 try clear c59
 try clear c60
 try clear c61
 try clear c64
 try clear p64
 try clear c65
 try clear c66
 try clear c67
 try clear c69
 try clear c70
 try clear c71
 try clear c73
 try clear c74
 try clear c76
 try clear c81
 try clear c82
 try clear c83
 try clear c84
 try clear c85
 try clear c87
 try clear c88
 try clear c89
 try clear c90
 try clear c91
 try clear c93
 try clear c94
 try clear c95
 try clear c98
 try clear c99
 try clear c100
 try clear c101
 try clear c103
 try clear c104
 try clear c105
 try clear c110
 try clear c110b0
 try clear c111
 try clear c111b0
 try clear c112
 try clear c112b0
 try clear hcz102_0
 try clear hcz106_0
 try clear hcz17_0
 try clear hcz24_0
 try clear hcz27_0
 try clear hcz34_0
 try clear hcz38_0
 try clear hcz41_0
 try clear hcz41_1
 try clear hcz41_2
 try clear hcz53_0
 try clear hcz53_1
 try clear hcz53_2
 try clear hcz53_3
 try clear hcz62_0
 try clear hcz63_0
 try clear hcz63_1
 try clear hcz63_2
 try clear hcz63_3
 try clear hcz68_0
 try clear hcz6_0
 try clear hcz6_1
 try clear hcz6_2
 try clear hcz72_0
 try clear hcz75_0
 try clear hcz77_0
 try clear hcz79_0
 try clear hcz80_0
 try clear hcz86_0
 try clear hcz92_0
 try clear hcz96_0
 try clear hcz9_0
 try clear hcz9_1
 try clear hcz9_2
 try clear hfz102_0
 try clear hfz106_0
 try clear hfz17_0
 try clear hfz24_0
 try clear hfz27_0
 try clear hfz34_0
 try clear hfz38_0
 try clear hfz41_0
 try clear hfz41_1
 try clear hfz41_2
 try clear hfz53_0
 try clear hfz53_1
 try clear hfz53_2
 try clear hfz53_3
 try clear hfz62_0
 try clear hfz63_0
 try clear hfz63_1
 try clear hfz63_2
 try clear hfz63_3
 try clear hfz68_0
 try clear hfz6_0
 try clear hfz6_1
 try clear hfz6_2
 try clear hfz72_0
 try clear hfz75_0
 try clear hfz77_0
 try clear hfz79_0
 try clear hfz80_0
 try clear hfz86_0
 try clear hfz92_0
 try clear hfz96_0
 try clear hfz9_0
 try clear hfz9_1
 try clear hfz9_2
 try clear hx113_0
 try clear hx114_0
 try clear hx117_0
 try clear hx117_1
 try clear hx117_2
 try clear hx117_3
 try clear hx126_0
 try clear p1
 try clear p11
 try clear p113
 try clear p114
 try clear p117
 try clear p126
 try clear p2
 try clear p6
 try clear p64
 try clear q1
 try clear q11
 try clear q113
 try clear q114
 try clear q117
 try clear q126
 obtain ⟨x17_4, x69_4, rfl, HA, HK4, HO_4, HO_14, HO_17, HO_61, HE126, BK101, BK111, BK112, BK115, BK116, HB⟩ := hrel
 obtain _ | k4 := gk
 · exact absurd HA.out (by simp [strata_Strata.l3])
 have H := HA.out
 clear HA
 simp only [strata_Strata.l3] at H
 by_cases c113 : x69_4 < ((rd_L7 t123 x63_3).length : Int)
 case neg =>
  rw [if_neg c113] at H
  have c113b0 := decide_eq_false c113
  clear c113
  by_cases c120 : x14_3.length < 5864062014805
  case neg => rw [if_neg c120] at H; exact absurd H (by simp)
  rw [if_pos c120] at H
  have LMc120 := Aside0.mk c120
  clear c120
  obtain ⟨y132, hy132⟩ : ∃ y_ : List (List ByteArray), y_ = (x14_3 ++ [x17_4]) := ⟨_, rfl⟩
  replace H : (strata_Strata.l2 k4 t102 y132 t123 (t123.length : Int) (wrap64 (x63_3 + 1))) = some (r1, r2) := by first | (rw [hy132]; with_reducible exact H) | (have H2_ := (Option.bind_some _ _).symm.trans H; rw [hy132]; with_reducible exact H2_) | (have H2_ := (Option.bind_some _ _).symm.trans H; with_reducible exact H2_) | with_reducible exact H | (rw [hy132]; exact H) | exact H
  have Ny132 := Aside0.mk hy132
  clear hy132
  have H' := Aside0.mk H
  clear H
  obtain ⟨Ao122, co122, eo122⟩ := Kd.R_slice HO_17.out
  subst eo122
  go_wp2_with (first | ((with_reducible refine gate_builtin (b := .append) (xs := #[.tmp 81, .tmp 83]) rfl ?_); at_builtin; refine Kd.S_append (Kd.slice 9 Kd.string) (w0 := w) w.heap.size rfl (.tmp 81) (.tmp 83) 30 34 (.slice none 0 0) 24 rfl Try.underlying30 info34 rfl (by decide) (by omega) u14 x14_3 x17_4 [.slice Ao122 x17_4.length co122] (fun k_ => some k_ ≠ (.slice Ao8 t102.length co8 : Value).ownBlock) (fun k_ => some k_ = (.slice Ao122 x17_4.length co122 : Value).ownBlock) rfl rfl ?aP (fun k_ hk_ => ((Kd.R_mono (ok' := fun k_ => ((fun k_ => some k_ ≠ (.slice Ao8 t102.length co8 : Value).ownBlock)) k_ ∧ some k_ ≠ (u14 : Value).ownBlock) (Kd.R_apart' (HO_17.out) (Kd.S_typed HO_14.out) (by decide)) (fun k_ hk => ⟨hk.1, hk.2⟩))).1 k_ hk_.symm) ?aF ?aO ?aB ?aS ?aL ?_; (case aP => exact Kd.M_row (Kd.R_mono (Kd.R_tight rfl (Kd.R_mono (ok' := fun k_ => ((fun k_ => some k_ ≠ (.slice Ao8 t102.length co8 : Value).ownBlock)) k_ ∧ some k_ ≠ (u14 : Value).ownBlock) (Kd.R_apart' (HO_17.out) (Kd.S_typed HO_14.out) (by decide)) (fun k_ hk => ⟨hk.1, hk.2⟩))) (fun _ h_ => h_))); (case aB => exact (by repeat (first | (with_reducible first | exact HB.out | apply below_alloc | apply pw_below_drewN | apply below_drew1 | refine below_set ?_ GE101.out | refine below_set ?_ GE111.out | refine below_set ?_ GE112.out | refine below_set ?_ GE115.out | refine below_set ?_ GE116.out) | exact HB.out))); (case aF => exact (fun k_ hk => Kd.fresh' (Kd.R_lt (by (with_reducible repeat (first | apply Kd.R_alloc | apply Kd.R_drewN | apply Kd.R_drew)); exact HO_4.out)) k_ hk)); (case aO => exact (by (with_reducible repeat (first | apply Kd.S_alloc | apply Kd.S_drewN | apply Kd.S_drew)); exact Kd.S_mono HO_14.out (fun k_ hk => ⟨hk.1, fun e_ => hk.2 e_⟩))); (case aS => exact (below_size (by repeat (first | (with_reducible first | exact HB.out | apply below_alloc | apply pw_below_drewN | apply below_drew1 | refine below_set ?_ GE101.out | refine below_set ?_ GE111.out | refine below_set ?_ GE112.out | refine below_set ?_ GE115.out | refine below_set ?_ GE116.out) | exact HB.out)))); (case aL => have := LMc120.out; omega); intro v133 w121 ho hb hg hat; rw [← Ny132.out] at ho; have n0_ := Aside0.mk (Kd.R_over' (by (with_reducible repeat (first | apply Kd.R_alloc | apply Kd.R_drewN | apply Kd.R_drew)); exact HO_4.out) (Kd.S_typed (by (with_reducible repeat (first | apply Kd.S_alloc | apply Kd.S_drewN | apply Kd.S_drew)); exact HO_14.out)) (by decide) hg); have n1_ := Aside0.mk (Kd.S_over' (by (with_reducible repeat (first | apply Kd.S_alloc | apply Kd.S_drewN | apply Kd.S_drew)); exact HO_61.out) (Kd.S_typed (by (with_reducible repeat (first | apply Kd.S_alloc | apply Kd.S_drewN | apply Kd.S_drew)); exact HO_14.out)) (by decide) hg); have n2_ := Aside0.mk (blk_grown (g := gb101) (o := .cells #[.slice A0_0 l0_0.length c0_0, .string a0_1, .slice A0_2 l0_2.length c0_2] 27 (0, 0)) (by (with_reducible repeat (first | refine blk_drewN ?_ _ | refine blk_drew ?_ | refine blk_alloc ?_ _)); exact BK101.out) hg (Kd.S_ne HO_14.out BK101.out (by decide))); have n3_ := Aside0.mk (blk_grown (g := gb111) (o := oM) (by (with_reducible repeat (first | refine blk_drewN ?_ _ | refine blk_drew ?_ | refine blk_alloc ?_ _)); exact BK111.out) hg (Kd.R_neO (Kd.S_R HO_14.out) BK111.out HNC.out)); have n4_ := Aside0.mk (blk_grown (g := gb112) (o := .cells #[.map (some gb111)] 58 (0, 0)) (by (with_reducible repeat (first | refine blk_drewN ?_ _ | refine blk_drew ?_ | refine blk_alloc ?_ _)); exact BK112.out) hg (Kd.S_ne HO_14.out BK112.out (by decide))); have n5_ := Aside0.mk (blk_grown (g := gb115) (o := .cells #[.bool false] 4 (0, 0)) (by (with_reducible repeat (first | refine blk_drewN ?_ _ | refine blk_drew ?_ | refine blk_alloc ?_ _)); exact BK115.out) hg (Kd.S_ne HO_14.out BK115.out (by decide))); have n6_ := Aside0.mk (blk_grown (g := gb116) (o := .cells #[.bool false] 4 (0, 0)) (by (with_reducible repeat (first | refine blk_drewN ?_ _ | refine blk_drew ?_ | refine blk_alloc ?_ _)); exact BK116.out) hg (Kd.S_ne HO_14.out BK116.out (by decide))); have n7_ := Aside0.mk (hb); have n8_ := Aside0.mk (ho); clear HO_4; clear HO_61; clear BK101; clear BK111; clear BK112; clear BK115; clear BK116; clear HB; clear HO_14; clear HO_17; have HO_4 := n0_; have HO_61 := n1_; have BK101 := n2_; have BK111 := n3_; have BK112 := n4_; have BK115 := n5_; have BK116 := n6_; have HB := n7_; have HO134 := n8_; clear n0_ n1_ n2_ n3_ n4_ n5_ n6_ n7_ n8_; clear ho hb hg hat))
  go_wp2
  repeat (go_quiet (fail); try go_wp2)
  go_roundg k4
  case measure => have := HK1.out; have := HK2.out; have := HK3.out; have := HK4.out; omega
  case rel => exact ⟨(y132), (wrap64 (x63_3 + 1)), (by first | rfl | (simp; done) | (simp [*]; done)), H', ⟨by have := HK1.out; have := HK2.out; have := HK3.out; have := HK4.out; omega⟩, ⟨by (with_reducible repeat (first | apply Kd.R_alloc | apply Kd.R_drewN | apply Kd.R_drew)); exact Kd.R_mono HO_4.out (fun _ hk => trivial)⟩, ⟨by (with_reducible repeat (first | apply Kd.S_alloc | apply Kd.S_drewN | apply Kd.S_drew)); exact HO134.out⟩, ⟨by (with_reducible repeat (first | apply Kd.S_alloc | apply Kd.S_drewN | apply Kd.S_drew)); exact HO_61.out⟩, ⟨by (with_reducible repeat (first | refine blk_drewN ?_ _ | refine blk_drew ?_ | refine blk_alloc ?_ _)); exact BK101.out⟩, ⟨by (with_reducible repeat (first | refine blk_drewN ?_ _ | refine blk_drew ?_ | refine blk_alloc ?_ _)); exact BK111.out⟩, ⟨by (with_reducible repeat (first | refine blk_drewN ?_ _ | refine blk_drew ?_ | refine blk_alloc ?_ _)); exact BK112.out⟩, ⟨by (with_reducible repeat (first | refine blk_drewN ?_ _ | refine blk_drew ?_ | refine blk_alloc ?_ _)); exact BK115.out⟩, ⟨by (with_reducible repeat (first | refine blk_drewN ?_ _ | refine blk_drew ?_ | refine blk_alloc ?_ _)); exact BK116.out⟩, ⟨by repeat (first | (with_reducible first | exact HB.out | apply below_alloc | apply pw_below_drewN | apply below_drew1 | refine below_set ?_ GE101.out | refine below_set ?_ GE111.out | refine below_set ?_ GE112.out | refine below_set ?_ GE115.out | refine below_set ?_ GE116.out) | exact HB.out)⟩⟩
 rw [if_pos c113] at H
 have c113b0 := decide_eq_true c113
 clear c113
 by_cases c114 : 0 ≤ x69_4
 case neg => rw [if_neg c114] at H; exact absurd H (by simp)
 rw [if_pos c114] at H
 have c114b0 := decide_eq_true c114
 clear c114
 by_cases c115 : x69_4 < ((rd_L7 t123 x63_3).length : Int)
 case neg => rw [if_neg c115] at H; exact absurd H (by simp)
 rw [if_pos c115] at H
 have c115b0 := decide_eq_true c115
 clear c115
 by_cases c116 : 0 ≤ (rd (rd_L7 t123 x63_3) x69_4)
 case neg => rw [if_neg c116] at H; exact absurd H (by simp)
 rw [if_pos c116] at H
 have c116b0 := decide_eq_true c116
 clear c116
 by_cases c117 : (rd (rd_L7 t123 x63_3) x69_4) < (t102.length : Int)
 case neg => rw [if_neg c117] at H; exact absurd H (by simp)
 rw [if_pos c117] at H
 have c117b0 := decide_eq_true c117
 clear c117
 by_cases c118 : x17_4.length < 8796093022208
 case neg => rw [if_neg c118] at H; exact absurd H (by simp)
 rw [if_pos c118] at H
 have LMc118 := Aside0.mk c118
 clear c118
 obtain ⟨y129, hy129⟩ : ∃ y_ : List ByteArray, y_ = (x17_4 ++ [rdOf ByteArray.empty t102 (rd (rd_L7 t123 x63_3) x69_4)]) := ⟨_, rfl⟩
 replace H : (strata_Strata.l3 k4 t102 x14_3 y129 t123 (t123.length : Int) x63_3 (rd_L7 t123 x63_3) ((rd_L7 t123 x63_3).length : Int) (wrap64 (x69_4 + 1))) = some (r1, r2) := by first | (rw [hy129]; with_reducible exact H) | (have H2_ := (Option.bind_some _ _).symm.trans H; rw [hy129]; with_reducible exact H2_) | (have H2_ := (Option.bind_some _ _).symm.trans H; with_reducible exact H2_) | with_reducible exact H | (rw [hy129]; exact H) | exact H
 have Ny129 := Aside0.mk hy129
 clear hy129
 have H' := Aside0.mk H
 clear H
 have p127 : 0 ≤ (x69_4 : Int) := of_decide_eq_true (by with_reducible assumption)
 have q127 : x69_4 < ((rd_L7 t123 x63_3).length : Int) := of_decide_eq_true (by with_reducible assumption)
 obtain ⟨ad127, e127, hx127_0⟩ := Kd.at_int (Kd.R_reads' HE126.out).2.2 x69_4 p127 q127
 cases e127
 replace p127 := eq_true p127
 replace q127 := eq_true q127
 have p128 : 0 ≤ ((rd (rd_L7 t123 x63_3) x69_4) : Int) := of_decide_eq_true (by with_reducible assumption)
 have q128 : (rd (rd_L7 t123 x63_3) x69_4) < (t102.length : Int) := of_decide_eq_true (by with_reducible assumption)
 obtain ⟨ad128, e128, hx128_0⟩ := Kd.at_string (Kd.R_reads' HO_4.out).2.2 (rd (rd_L7 t123 x63_3) x69_4) p128 q128
 cases e128
 replace p128 := eq_true p128
 replace q128 := eq_true q128
 go_wp2_with (first | ((with_reducible refine gate_builtin (b := .append) (xs := #[.tmp 73, .tmp 78]) rfl ?_); at_builtin; refine Kd.R_append Kd.string (w0 := w) w.heap.size rfl (.tmp 73) (.tmp 78) 34 9 (.string ⟨#[]⟩) 16 rfl Try.underlying34 info9 rfl (by decide) (by omega) u17 x17_4 (rdOf ByteArray.empty t102 (rd (rd_L7 t123 x63_3) x69_4)) [.string (rdOf ByteArray.empty t102 (rd (rd_L7 t123 x63_3) x69_4))] (fun k_ => some k_ ≠ (.slice (some ad128) t102.length co8 : Value).ownBlock) (fun _ => False) rfl rfl ?aP (fun _ hk => hk.elim) ?aF ?aO ?aB ?aS ?aL ?_; (case aP => exact rfl); (case aB => exact (by repeat (first | (with_reducible first | exact HB.out | apply below_alloc | apply pw_below_drewN | apply below_drew1 | refine below_set ?_ GE101.out | refine below_set ?_ GE111.out | refine below_set ?_ GE112.out | refine below_set ?_ GE115.out | refine below_set ?_ GE116.out) | exact HB.out))); (case aF => exact (fun k_ hk => Kd.fresh' (Kd.R_lt (by (with_reducible repeat (first | apply Kd.R_alloc | apply Kd.R_drewN | apply Kd.R_drew)); exact HO_4.out)) k_ hk)); (case aO => exact (by (with_reducible repeat (first | apply Kd.R_alloc | apply Kd.R_drewN | apply Kd.R_drew)); exact HO_17.out)); (case aS => exact (below_size (by repeat (first | (with_reducible first | exact HB.out | apply below_alloc | apply pw_below_drewN | apply below_drew1 | refine below_set ?_ GE101.out | refine below_set ?_ GE111.out | refine below_set ?_ GE112.out | refine below_set ?_ GE115.out | refine below_set ?_ GE116.out) | exact HB.out)))); (case aL => have := LMc118.out; omega); intro v130 w119 ho hb hg hat; rw [← Ny129.out] at ho; have n0_ := Aside0.mk (Kd.R_after (ok := (fun _ => True)) (by (with_reducible repeat (first | apply Kd.R_alloc | apply Kd.R_drewN | apply Kd.R_drew)); exact Kd.R_mono HO_4.out (fun _ hk => ⟨trivial, hk⟩)) hg hat); have n1_ := Aside0.mk (Kd.S_after (ok := (fun k_ => some k_ ≠ (.slice (some ad128) t102.length co8 : Value).ownBlock)) (by (with_reducible repeat (first | apply Kd.S_alloc | apply Kd.S_drewN | apply Kd.S_drew)); exact HO_14.out) hg hat); have n2_ := Aside0.mk (Kd.S_over' (by (with_reducible repeat (first | apply Kd.S_alloc | apply Kd.S_drewN | apply Kd.S_drew)); exact HO_61.out) (Kd.R_typed (by (with_reducible repeat (first | apply Kd.R_alloc | apply Kd.R_drewN | apply Kd.R_drew)); exact HO_17.out)) (by decide) hg); have nE_ := Aside0.mk (Kd.R_over' HE126.out (Kd.R_typed (by (with_reducible repeat (first | apply Kd.R_alloc | apply Kd.R_drewN | apply Kd.R_drew)); exact HO_17.out)) (by decide) hg); have n3_ := Aside0.mk (blk_grown (g := gb101) (o := .cells #[.slice A0_0 l0_0.length c0_0, .string a0_1, .slice A0_2 l0_2.length c0_2] 27 (0, 0)) (by (with_reducible repeat (first | refine blk_drewN ?_ _ | refine blk_drew ?_ | refine blk_alloc ?_ _)); exact BK101.out) hg (Kd.R_ne HO_17.out BK101.out (by decide))); have n4_ := Aside0.mk (blk_grown (g := gb111) (o := oM) (by (with_reducible repeat (first | refine blk_drewN ?_ _ | refine blk_drew ?_ | refine blk_alloc ?_ _)); exact BK111.out) hg (Kd.R_neO HO_17.out BK111.out HNC.out)); have n5_ := Aside0.mk (blk_grown (g := gb112) (o := .cells #[.map (some gb111)] 58 (0, 0)) (by (with_reducible repeat (first | refine blk_drewN ?_ _ | refine blk_drew ?_ | refine blk_alloc ?_ _)); exact BK112.out) hg (Kd.R_ne HO_17.out BK112.out (by decide))); have n6_ := Aside0.mk (blk_grown (g := gb115) (o := .cells #[.bool false] 4 (0, 0)) (by (with_reducible repeat (first | refine blk_drewN ?_ _ | refine blk_drew ?_ | refine blk_alloc ?_ _)); exact BK115.out) hg (Kd.R_ne HO_17.out BK115.out (by decide))); have n7_ := Aside0.mk (blk_grown (g := gb116) (o := .cells #[.bool false] 4 (0, 0)) (by (with_reducible repeat (first | refine blk_drewN ?_ _ | refine blk_drew ?_ | refine blk_alloc ?_ _)); exact BK116.out) hg (Kd.R_ne HO_17.out BK116.out (by decide))); have n8_ := Aside0.mk (hb); have n9_ := Aside0.mk (ho); clear HO_4; clear HO_14; clear HO_61; clear HE126; clear BK101; clear BK111; clear BK112; clear BK115; clear BK116; clear HB; clear HO_17; have HO_4 := n0_; have HO_14 := n1_; have HO_61 := n2_; have HE126 := nE_; clear nE_; have BK101 := n3_; have BK111 := n4_; have BK112 := n5_; have BK115 := n6_; have BK116 := n7_; have HB := n8_; have HO131 := n9_; clear n0_ n1_ n2_ n3_ n4_ n5_ n6_ n7_ n8_ n9_; clear ho hb hg hat))
 go_wp2
 repeat (go_quiet (fail); try go_wp2)
 go_roundg k4
 case measure => have := HK1.out; have := HK2.out; have := HK3.out; have := HK4.out; omega
 case rel => exact ⟨(y129), (wrap64 (x69_4 + 1)), (by first | rfl | (simp; done) | (simp [*]; done)), H', ⟨by have := HK1.out; have := HK2.out; have := HK3.out; have := HK4.out; omega⟩, ⟨by (with_reducible repeat (first | apply Kd.R_alloc | apply Kd.R_drewN | apply Kd.R_drew)); exact Kd.R_mono HO_4.out (fun _ hk => hk.2)⟩, ⟨by (with_reducible repeat (first | apply Kd.S_alloc | apply Kd.S_drewN | apply Kd.S_drew)); exact HO_14.out⟩, ⟨by (with_reducible repeat (first | apply Kd.R_alloc | apply Kd.R_drewN | apply Kd.R_drew)); exact HO131.out⟩, ⟨by (with_reducible repeat (first | apply Kd.S_alloc | apply Kd.S_drewN | apply Kd.S_drew)); exact HO_61.out⟩, HE126, ⟨by (with_reducible repeat (first | refine blk_drewN ?_ _ | refine blk_drew ?_ | refine blk_alloc ?_ _)); exact BK101.out⟩, ⟨by (with_reducible repeat (first | refine blk_drewN ?_ _ | refine blk_drew ?_ | refine blk_alloc ?_ _)); exact BK111.out⟩, ⟨by (with_reducible repeat (first | refine blk_drewN ?_ _ | refine blk_drew ?_ | refine blk_alloc ?_ _)); exact BK112.out⟩, ⟨by (with_reducible repeat (first | refine blk_drewN ?_ _ | refine blk_drew ?_ | refine blk_alloc ?_ _)); exact BK115.out⟩, ⟨by (with_reducible repeat (first | refine blk_drewN ?_ _ | refine blk_drew ?_ | refine blk_alloc ?_ _)); exact BK116.out⟩, ⟨by repeat (first | (with_reducible first | exact HB.out | apply below_alloc | apply pw_below_drewN | apply below_drew1 | refine below_set ?_ GE101.out | refine below_set ?_ GE111.out | refine below_set ?_ GE112.out | refine below_set ?_ GE115.out | refine below_set ?_ GE116.out) | exact HB.out)⟩⟩
end Go.Proofs.Ytfkilcegdajdcaa.PZ
