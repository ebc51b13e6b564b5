
/- strata.Names' function value: it appends each name to the variable that it has captured. -/
import Derived.Test.YtfkilcegdajdcaaGEach
namespace Go.Proofs.Ytfkilcegdajdcaa.PZ
open Go.RowKit Go.Proofs.YtfkilcegdajdcaaW.PrintWords Go.Proofs.YtfkilcegdajdcaaW.PrintLast Go.Proofs.YtfkilcegdajdcaaW.PrintMore
set_option linter.unusedVariables false
set_option linter.unusedSimpArgs false
def NamesI (w0 : World) (gb : Nat) (out0 : List ByteArray) (d : List (S46 × ByteArray)) (ok : Nat → Prop) (W : World) : Prop :=
  ∃ v : Value, W.heap[gb]? = some (.cells #[v] 34 (0, 0)) ∧ Kd.R Kd.string 9 W w0.heap.size (fun k => some k = v.ownBlock) v (out0 ++ d.map Prod.snd) ∧ ∀ k, ok k ↔ (k = gb ∨ some k = v.ownBlock)
set_option maxHeartbeats 8000000 in
set_option maxRecDepth 100000 in
theorem names1_step (w0 : World) (gb : Nat) (hge : w0.heap.size ≤ gb) (out0 : List ByteArray) (d : List (S46 × ByteArray)) (hlen : out0.length + d.length < 100000) (ok : Nat → Prop) (W : World) (x : S46) (s : ByteArray) (cs : List Value)
    (hI : NamesI w0 gb out0 d ok W) (hB : Below w0.heap.size w0 W) (hc : k46.K W x cs) :
    Calls Try.prog 25 (#[.agg cs.toArray, .string s] ++ #[.pointer (some ⟨gb, 0, none⟩)]) W fun e W' => e = .returned (.tuple #[]) ∧ Below w0.heap.size w0 W' ∧ ∃ ok', NamesI w0 gb out0 (d ++ [(x, s)]) ok' W' ∧ Kept W W' ok ∧ ∀ k, ok' k → ok k ∨ W.heap.size ≤ k := by
  obtain ⟨v, hb, hr, hok⟩ := hI
  obtain ⟨A2, c2, A16, c16, rfl, _, _, _, _⟩ := k46_open hc
  have HB := Aside0.mk hB
  have HO := Aside0.mk (show Kd.R Kd.string 9 W w0.heap.size (fun k => some k = v.ownBlock ∨ W.heap.size ≤ k) v (out0 ++ d.map Prod.snd) from Kd.R_mono hr (fun k hk => .inl hk))
  have BK := Aside0.mk hb
  have NE := Aside0.mk (Kd.R_ne hr hb (by decide))
  have LN := Aside0.mk (show ((out0 ++ d.map Prod.snd).length + 1) * 16 ≤ 140737488355328 by rw [List.length_append, List.length_map]; omega)
  have HBW := Aside0.mk (Below.refl W.heap.size W)
  have FIN : Aside0 (∀ (w2 w3 : World) (v1 : Value), Below W.heap.size W w2 → Below w0.heap.size w0 w3 → Kd.R Kd.string 9 w3 w0.heap.size (fun k => some k = v.ownBlock ∨ W.heap.size ≤ k) v1 ((out0 ++ d.map Prod.snd) ++ [s]) → w2.grownBy w3 v.ownBlock → (v1.ownBlock = v.ownBlock ∨ ∃ b, v1.ownBlock = some b ∧ w2.heap.size ≤ b) →
      Below w0.heap.size w0 (w3.setCell ⟨gb, 0, none⟩ v1) ∧ ∃ ok', NamesI w0 gb out0 (d ++ [(x, s)]) ok' (w3.setCell ⟨gb, 0, none⟩ v1) ∧ Kept W (w3.setCell ⟨gb, 0, none⟩ v1) ok ∧ ∀ k, ok' k → ok k ∨ W.heap.size ≤ k) := ⟨by
    intro w2 w3 v1 h2 h3 hr1 hg hat
    have hb2 : w2.heap[gb]? = some (.cells #[v] 34 (0, 0)) := blk_below hb h2
    have hb3 : w3.heap[gb]? = some (.cells #[v] 34 (0, 0)) := blk_grown hb2 hg NE.out
    have hk2 : Kept W w3 ok := Kept.of_grown hg (Kept.of_below h2 ok) (fun k hk => .inl ((hok k).2 (.inr hk.symm)))
    have hgb : ok gb := (hok gb).2 (.inl rfl)
    refine ⟨below_set h3 hge, fun k => k = gb ∨ some k = v1.ownBlock, ⟨v1, ?_, ?_, fun k => Iff.rfl⟩, hk2.setCell (.inl hgb) v1, ?_⟩
    · exact blk_put (cs := #[v]) hb3 0 v1 rfl
    · rw [List.map_append, ← List.append_assoc]
      have ht := Kd.R_tight rfl hr1
      refine Kd.R_far (p := ⟨gb, 0, none⟩) ht (fun k hk e => ?_) v1
      subst e
      exact Kd.R_ne hr1 hb3 (by decide) hk
    · rintro k (rfl | hk)
      · exact .inl hgb
      · rcases hat with h | ⟨b, h, hle⟩
        · exact .inl ((hok k).2 (.inr (hk.trans h)))
        · rw [h] at hk
          obtain rfl := Option.some.inj hk
          exact .inr (Nat.le_trans h2.size hle)⟩
  obtain ⟨L, hL⟩ : ∃ L, L = (out0 ++ d.map Prod.snd) ++ [s] := ⟨_, rfl⟩
  have HL := Aside0.mk hL
  clear hL hr hb hB hc hlen
  go_enter Try.func25, Try.ntmps25
  go_wp2_with (first
    | ((with_reducible refine gate_dst (N := 3) rfl ?_); refine box_event ?hg (N := 3) ?hd (cs := #[.int .i64 x.f0, .string x.f1.f0, .slice A2 x.f1.f1.length c2, .string x.f2, .string x.f3.f0, .int .i64 x.f3.f1.f0, .int .i64 x.f3.f1.f1, .string x.f3.f1.f2, .string x.f4.f0, .int .i64 x.f4.f1.f0, .int .i64 x.f4.f1.f1, .string x.f4.f1.f2, .string x.f5.f0, .int .i64 x.f5.f1.f0, .int .i64 x.f5.f1.f1, .string x.f5.f1.f2, .slice A16 x.f6.length c16]) (t := 46) ?hr ?_; (case hd => rfl); (case hg => rfl); (case hr => first | (go_simp; done) | (go_simp; rfl)); intro g3 hg w2 hbox hb; have n0_ := Aside0.mk (below_step (by repeat (first | (with_reducible first | exact HBW.out | apply below_alloc | apply pw_below_drewN | apply below_drew1) | exact HBW.out)) hb); have n1_ := Aside0.mk (below_step (by repeat (first | (with_reducible first | exact HB.out | apply below_alloc | apply pw_below_drewN | apply below_drew1) | exact HB.out)) hb); have n2_ := Aside0.mk (Kd.R_below (by (with_reducible repeat (first | apply Kd.R_alloc | apply Kd.R_drewN | apply Kd.R_drew)); exact HO.out) hb); have n3_ := Aside0.mk (blk_below (g := gb) (o := .cells #[v] 34 (0, 0)) (by (with_reducible repeat (first | refine blk_drewN ?_ _ | refine blk_drew ?_ | refine blk_alloc ?_ _)); exact BK.out) hb); clear HB HBW HO BK; have HBW := n0_; have HB := n1_; have HO := n2_; have BK := n3_; clear n0_ n1_ n2_ n3_; clear hb hbox hg; have hx : w2.cell? ⟨gb, 0, none⟩ = some v := (blk_cell BK.out 0).trans rfl; have hfz := blk_frozen BK.out 0)
    | ((with_reducible refine gate_builtin (b := .append) (xs := #[.tmp 5, .tmp 7]) rfl ?_); at_builtin; refine Kd.R_append Kd.string (w0 := w0) w0.heap.size rfl (.tmp 5) (.tmp 7) 34 9 (.string ⟨#[]⟩) 16 rfl Try.underlying34 info9 rfl (by decide) (by omega) v (out0 ++ d.map Prod.snd) s [.string s] (fun k => some k = v.ownBlock ∨ W.heap.size ≤ k) (fun _ => False) rfl rfl ?aP (fun _ hk => hk.elim) ?aF ?aO ?aB ?aS ?aL ?_; (case aP => exact rfl); (case aB => exact HB.out); (case aF => exact (fun k hk => .inr (Nat.le_trans HBW.out.size hk))); (case aO => exact HO.out); (case aS => exact HB.out.size); (case aL => exact LN.out); intro v1 w3 ho hb hg hat; rw [← HL.out] at ho; obtain ⟨Ao, co, eo⟩ := Kd.R_slice ho; subst eo; have GG := Aside0.mk (And.intro ho (And.intro hb (And.intro hg hat))); clear ho hb hat; have BK3 := Aside0.mk (blk_grown BK.out hg NE.out); clear hg; have hx3 : w3.cell? ⟨gb, 0, none⟩ = some v := (blk_cell BK3.out 0).trans rfl; have hfz3 := blk_frozen BK3.out 0))
  first | go_end0 | ((try simp only [Exit.inBlock, Exit.then]); refine bodyPost_ret (results_none rfl _ _ _) rfl ?_)
  exact ⟨by first | rfl | (simp; done), FIN.out _ _ _ HBW.out GG.out.2.1 (by rw [← HL.out]; exact GG.out.1) GG.out.2.2.1 GG.out.2.2.2⟩
theorem names1_takes (w0 : World) (gb : Nat) (hge : w0.heap.size ≤ gb) (out0 : List ByteArray) (all : List (S46 × ByteArray)) (hlen : out0.length + all.length ≤ 100000) : Takes 25 #[.pointer (some ⟨gb, 0, none⟩)] w0 all (NamesI w0 gb out0) where
  enters := enters_of Try.func25 (by kernel_rfl) rfl
  move := by
    rintro d ok W W' ⟨v, hb, hr, hok⟩ hs hm
    exact ⟨v, (hm gb ((hok gb).2 (.inl rfl))).trans hb, Kd.R_move hr (fun k hk => hm k ((hok k).2 (.inr hk))), hok⟩
  lt := by
    rintro d ok W ⟨v, hb, hr, hok⟩ k hk
    rcases (hok k).1 hk with rfl | h
    · exact blk_lt hb
    · exact Kd.R_lt hr k h.symm
  step := by
    intro d ok W x s rest cs hI hB ha hc
    refine names1_step w0 gb hge out0 d ?_ ok W x s cs hI hB hc
    have := congrArg List.length ha
    simp only [List.length_append, List.length_cons] at this
    omega
def each_Names.f (k : Nat) (p : ByteArray) (l1 : List S43) (fold : Int) (body : List S46) (out : List ByteArray) : Option (List ByteArray) :=
  (usesL k body).bind fun all => if out.length + all.length ≤ 100000 then some (out ++ all.map Prod.snd) else none
theorem each_Names.mono : ∀ a0 a1 a2 a3 a4 k, LeO (each_Names.f k a0 a1 a2 a3 a4) (each_Names.f (k + 1) a0 a1 a2 a3 a4) := by
  intro a0 a1 a2 a3 a4 k
  unfold each_Names.f
  exact LeO.bind (usesL_mono k _) (fun _ => LeO.refl _)
theorem each_Names.calls (k : Nat) (p : ByteArray) (A1 : Option Addr) (c1 : Nat) (l1 : List S43) (fold : Int) (A3 : Option Addr) (c3 : Nat) (body : List S46) (u : Value) (out : List ByteArray) (r : List ByteArray) (gb : Nat) (w0 w : World)
    (hB : Below w0.heap.size w0 w) (hr1 : Kd.C k43 w0 A1 l1.length l1) (hc1 : l1.length ≤ c1) (hr3 : Kd.C k46 w0 A3 body.length body) (hc3 : body.length ≤ c3) (hge : w0.heap.size ≤ gb) (hb : w.heap[gb]? = some (.cells #[u] 34 (0, 0))) (ho : Kd.R Kd.string 9 w w0.heap.size (fun _ => True) u out)
    (h : each_Names.f k p l1 fold body out = some r) :
    Calls Try.prog 22 #[.agg #[.string p, .slice A1 l1.length c1, .int .i64 fold, .slice A3 body.length c3], .func (.func 25) #[] #[.pointer (some ⟨gb, 0, none⟩)]] w fun e w' => e = .returned (.tuple #[]) ∧ ∃ v : Value, w'.heap[gb]? = some (.cells #[v] 34 (0, 0)) ∧ Kd.R Kd.string 9 w' w0.heap.size (fun _ => True) v r ∧ Below w0.heap.size w0 w' ∧ Kept w w' (fun k => k = gb ∨ some k = u.ownBlock) := by
  unfold each_Names.f at h
  obtain ⟨all, h2, h⟩ := Option.bind_eq_some_iff.1 h
  by_cases hl : out.length + all.length ≤ 100000
  · rw [if_pos hl] at h
    obtain rfl := Option.some.inj h
    have T := names1_takes w0 gb hge out all hl
    refine (strata_each.calls T k p A1 c1 l1.length fold A3 c3 body w hB (fun k => k = gb ∨ some k = u.ownBlock) ⟨u, hb, ?_, fun k => Iff.rfl⟩ h2 hr3).mono ?_
    · rw [List.map_nil, List.append_nil]
      exact Kd.R_tight rfl ho
    · rintro e w' ⟨he, hb', ok', ⟨v, hv, hr, _⟩, hk, _⟩
      exact ⟨he, v, hv, Kd.R_mono hr (fun _ _ => trivial), hb', hk⟩
  · rw [if_neg hl] at h
    cases h
end Go.Proofs.Ytfkilcegdajdcaa.PZ
