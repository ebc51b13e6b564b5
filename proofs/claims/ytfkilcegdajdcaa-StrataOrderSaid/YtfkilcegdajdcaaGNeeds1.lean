
/- strata.Needs' function value: it looks each name up and appends the pair to the variable that it has captured. -/
import Derived.Test.YtfkilcegdajdcaaGEach
import Derived.Test.YtfkilcegdajdcaaPZx3
namespace Go.Proofs.Ytfkilcegdajdcaa.PZ
open Go.RowKit Go.Proofs.YtfkilcegdajdcaaW.PrintWords Go.Proofs.YtfkilcegdajdcaaW.PrintLast Go.Proofs.YtfkilcegdajdcaaW.PrintMore
set_option linter.unusedVariables false
set_option linter.unusedSimpArgs false
theorem info53n : (Try.prog.info? 53).map (fun i => (i.zero, i.size, i.bytes)) = some (some (.agg #[.int .i64 0, .int .i64 0]), 2, 16) := by kernel_rfl
def nd (k : Nat) (names : List ByteArray) (fr : Int) : List (S46 × ByteArray) → Option (List S53)
  | [] => some []
  | q :: t => (slices_BinarySearch_string_string.f k names q.2).bind fun r => (nd k names fr t).bind fun l => some (⟨fr, r.1⟩ :: l)
theorem nd_mono (k : Nat) (names : List ByteArray) (fr : Int) : ∀ l, LeO (nd k names fr l) (nd (k + 1) names fr l)
  | [] => LeO.refl _
  | q :: t => by
    unfold nd
    exact LeO.bind (slices_BinarySearch_string_string.mono _ _ k) (fun _ => LeO.bind (nd_mono k names fr t) (fun _ => LeO.refl _))
theorem nd_len {k : Nat} {names : List ByteArray} {fr : Int} : ∀ {l : List (S46 × ByteArray)} {r : List S53}, nd k names fr l = some r → r.length = l.length
  | [], r, h => by obtain rfl := Option.some.inj h; rfl
  | q :: t, r, h => by
    unfold nd at h
    obtain ⟨a, _, h⟩ := Option.bind_eq_some_iff.1 h
    obtain ⟨b, h2, h⟩ := Option.bind_eq_some_iff.1 h
    obtain rfl := Option.some.inj h
    simp [nd_len h2]
theorem nd_app {k : Nat} {names : List ByteArray} {fr : Int} : ∀ (a b : List (S46 × ByteArray)) (r : List S53), nd k names fr (a ++ b) = some r → ∃ u v, nd k names fr a = some u ∧ nd k names fr b = some v ∧ r = u ++ v
  | [], b, r, h => ⟨[], r, rfl, h, rfl⟩
  | q :: t, b, r, h => by
    rw [List.cons_append] at h
    unfold nd at h
    obtain ⟨a1, h1, h⟩ := Option.bind_eq_some_iff.1 h
    obtain ⟨b1, h2, h⟩ := Option.bind_eq_some_iff.1 h
    obtain rfl := Option.some.inj h
    obtain ⟨u, v, h3, h4, rfl⟩ := nd_app t b b1 h2
    refine ⟨⟨fr, a1.1⟩ :: u, v, ?_, h4, rfl⟩
    unfold nd
    rw [h1, Option.bind_some, h3, Option.bind_some]
theorem app_nd {k : Nat} {names : List ByteArray} {fr : Int} : ∀ (a b : List (S46 × ByteArray)) (u v : List S53), nd k names fr a = some u → nd k names fr b = some v → nd k names fr (a ++ b) = some (u ++ v)
  | [], b, u, v, h, h2 => by obtain rfl := Option.some.inj h; exact h2
  | q :: t, b, u, v, h, h2 => by
    unfold nd at h
    obtain ⟨a1, h1, h⟩ := Option.bind_eq_some_iff.1 h
    obtain ⟨b1, h3, h⟩ := Option.bind_eq_some_iff.1 h
    obtain rfl := Option.some.inj h
    rw [List.cons_append]
    unfold nd
    rw [h1, Option.bind_some, app_nd t b b1 v h3 h2, Option.bind_some]
    rfl
def NeedsI (w0 : World) (gn gp gf : Nat) (vn : Value) (K : Nat) (names : List ByteArray) (fr : Int) (out0 : List S53) (d : List (S46 × ByteArray)) (ok : Nat → Prop) (W : World) : Prop :=
  ∃ (v : Value) (L : List S53), nd K names fr d = some L ∧ W.heap[gp]? = some (.cells #[v] 51 (0, 0)) ∧ W.heap[gn]? = some (.cells #[vn] 34 (0, 0)) ∧ W.heap[gf]? = some (.cells #[.int .i64 fr] 3 (0, 0)) ∧
    Kd.R Kd.string 9 W w0.heap.size (fun k => some k = vn.ownBlock) vn names ∧ Kd.R k53 53 W w0.heap.size (fun k => some k = v.ownBlock) v (out0 ++ L) ∧ ∀ k, ok k ↔ (k = gp ∨ some k = v.ownBlock ∨ k = gn ∨ k = gf ∨ some k = vn.ownBlock)
set_option maxHeartbeats 8000000 in
set_option maxRecDepth 100000 in
theorem needs1_step (w0 : World) (gn gp gf : Nat) (hge : w0.heap.size ≤ gp) (vn : Value) (K : Nat) (names : List ByteArray) (fr : Int) (out0 : List S53) (d : List (S46 × ByteArray)) (hlen : out0.length + d.length < 100000) (ok : Nat → Prop) (W : World) (x : S46) (s : ByteArray) (cs : List Value)
    (tt0 : Int) (is : Bool) (hs : slices_BinarySearch_string_string.f K names s = some (tt0, is)) (hI : NeedsI w0 gn gp gf vn K names fr out0 d ok W) (hB : Below w0.heap.size w0 W) (hc : k46.K W x cs) :
    Calls Try.prog 29 (#[.agg cs.toArray, .string s] ++ #[.pointer (some ⟨gn, 0, none⟩), .pointer (some ⟨gp, 0, none⟩), .pointer (some ⟨gf, 0, none⟩)]) W fun e W' => e = .returned (.tuple #[]) ∧ Below w0.heap.size w0 W' ∧ ∃ ok', NeedsI w0 gn gp gf vn K names fr out0 (d ++ [(x, s)]) ok' W' ∧ Kept W W' ok ∧ ∀ k, ok' k → ok k ∨ W.heap.size ≤ k := by
  obtain ⟨v, L, hL, hbp, hbn, hbf, hrn, hr, hok⟩ := hI
  obtain ⟨A2, c2, A16, c16, rfl, _, _, _, _⟩ := k46_open hc
  have hLl := nd_len hL
  have HB := Aside0.mk hB
  have HO := Aside0.mk (show Kd.R k53 53 W w0.heap.size (fun k => some k = v.ownBlock ∨ W.heap.size ≤ k) v (out0 ++ L) from Kd.R_mono hr (fun k hk => .inl hk))
  have HN := Aside0.mk hrn
  have BP := Aside0.mk hbp
  have BN := Aside0.mk hbn
  have BF := Aside0.mk hbf
  have NEP := Aside0.mk (Kd.R_ne hr hbp (by decide))
  have NEN := Aside0.mk (Kd.R_ne hr hbn (by decide))
  have NEF := Aside0.mk (Kd.R_ne hr hbf (by decide))
  have HS := Aside0.mk hs
  have NPN := Aside0.mk (blk_ne hbp hbn (by decide))
  have NPF := Aside0.mk (blk_ne hbp hbf (by decide))
  have LN := Aside0.mk (show ((out0 ++ L).length + 1) * 16 ≤ 140737488355328 by rw [List.length_append]; omega)
  have HBW := Aside0.mk (Below.refl W.heap.size W)
  have FIN : Aside0 (∀ (w2 w3 : World) (v1 : Value), Below W.heap.size W w2 → Below w0.heap.size w0 w3 → Kd.R k53 53 w3 w0.heap.size (fun k => some k = v.ownBlock ∨ W.heap.size ≤ k) v1 ((out0 ++ L) ++ [⟨fr, tt0⟩]) → w2.grownBy w3 v.ownBlock → (v1.ownBlock = v.ownBlock ∨ ∃ b, v1.ownBlock = some b ∧ w2.heap.size ≤ b) →
      Below w0.heap.size w0 (w3.setCell ⟨gp, 0, none⟩ v1) ∧ ∃ ok', NeedsI w0 gn gp gf vn K names fr out0 (d ++ [(x, s)]) ok' (w3.setCell ⟨gp, 0, none⟩ v1) ∧ Kept W (w3.setCell ⟨gp, 0, none⟩ v1) ok ∧ ∀ k, ok' k → ok k ∨ W.heap.size ≤ k) := ⟨by
    intro w2 w3 v1 h2 h3 hr1 hg hat
    have hp3 : w3.heap[gp]? = some (.cells #[v] 51 (0, 0)) := blk_grown (blk_below hbp h2) hg NEP.out
    have hn3 : w3.heap[gn]? = some (.cells #[vn] 34 (0, 0)) := blk_grown (blk_below hbn h2) hg NEN.out
    have hf3 : w3.heap[gf]? = some (.cells #[.int .i64 fr] 3 (0, 0)) := blk_grown (blk_below hbf h2) hg NEF.out
    have hk2 : Kept W w3 ok := Kept.of_grown hg (Kept.of_below h2 ok) (fun k hk => .inl ((hok k).2 (.inr (.inl hk.symm))))
    have hgb : ok gp := (hok gp).2 (.inl rfl)
    have hrn3 : Kd.R Kd.string 9 w3 w0.heap.size (fun k => some k = vn.ownBlock) vn names := by
      refine Kd.R_grown (Kd.R_below hrn h2) hg (fun k hk e => ?_)
      obtain ⟨inner, ho⟩ := Kd.R_own hrn
      obtain ⟨c1, hc1⟩ := own_typed ho k hk.symm
      obtain ⟨inner2, ho2⟩ := Kd.R_own hr
      obtain ⟨c2, hc2⟩ := own_typed ho2 k e.symm
      rw [hc1] at hc2
      injection hc2 with hc2
      injection hc2 with _ hc2
      exact absurd hc2 (by decide)
    have hto : nd K names fr (d ++ [(x, s)]) = some (L ++ [⟨fr, tt0⟩]) := app_nd d [(x, s)] L [⟨fr, tt0⟩] hL (by simp only [nd]; rw [hs]; rfl)
    refine ⟨below_set h3 hge, fun k => k = gp ∨ some k = v1.ownBlock ∨ k = gn ∨ k = gf ∨ some k = vn.ownBlock, ⟨v1, L ++ [⟨fr, tt0⟩], hto, ?_, ?_, ?_, ?_, ?_, fun k => Iff.rfl⟩, hk2.setCell (.inl hgb) v1, ?_⟩
    · exact blk_put (cs := #[v]) hp3 0 v1 rfl
    · exact (Below.heap_setCell _ _ _ _ (fun h => NPN.out h.symm)).trans hn3
    · exact (Below.heap_setCell _ _ _ _ (fun h => NPF.out h.symm)).trans hf3
    · refine Kd.R_far (p := ⟨gp, 0, none⟩) hrn3 (fun k hk e => ?_) v1
      subst e
      exact Kd.R_ne hrn3 hp3 (by decide) hk
    · rw [← List.append_assoc]
      have ht := Kd.R_tight rfl hr1
      refine Kd.R_far (p := ⟨gp, 0, none⟩) ht (fun k hk e => ?_) v1
      subst e
      exact Kd.R_ne hr1 hp3 (by decide) hk
    · rintro k (rfl | hk | rfl | rfl | hk)
      · exact .inl hgb
      · rcases hat with h | ⟨b, h, hle⟩
        · exact .inl ((hok k).2 (.inr (.inl (hk.trans h))))
        · rw [h] at hk
          obtain rfl := Option.some.inj hk
          exact .inr (Nat.le_trans h2.size hle)
      · exact .inl ((hok k).2 (.inr (.inr (.inl rfl))))
      · exact .inl ((hok k).2 (.inr (.inr (.inr (.inl rfl)))))
      · exact .inl ((hok k).2 (.inr (.inr (.inr (.inr hk)))))⟩
  obtain ⟨Lo, hLo⟩ : ∃ Lo, Lo = (out0 ++ L) ++ [(⟨fr, tt0⟩ : S53)] := ⟨_, rfl⟩
  have HLO := Aside0.mk hLo
  obtain ⟨An, cn, rfl⟩ := Kd.R_slice hrn
  clear hLo hLl hL hrn hr hbp hbn hbf hB hc hlen hs
  go_enter Try.func29, Try.ntmps29
  go_wp2_with (first
    | ((with_reducible refine gate_dst (N := 5) rfl ?_); refine box_event ?hg (N := 5) ?hd (cs := #[.int .i64 x.f0, .string x.f1.f0, .slice A2 x.f1.f1.length c2, .string x.f2, .string x.f3.f0, .int .i64 x.f3.f1.f0, .int .i64 x.f3.f1.f1, .string x.f3.f1.f2, .string x.f4.f0, .int .i64 x.f4.f1.f0, .int .i64 x.f4.f1.f1, .string x.f4.f1.f2, .string x.f5.f0, .int .i64 x.f5.f1.f0, .int .i64 x.f5.f1.f1, .string x.f5.f1.f2, .slice A16 x.f6.length c16]) (t := 46) ?hr ?_; (case hd => rfl); (case hg => rfl); (case hr => first | (go_simp; done) | (go_simp; rfl)); intro g3 hg w2 hbox hb; have n0_ := Aside0.mk (below_step HBW.out hb); have n1_ := Aside0.mk (below_step HB.out hb); have n2_ := Aside0.mk (Kd.R_below HO.out hb); have n3_ := Aside0.mk (blk_below BP.out hb); have n4_ := Aside0.mk (blk_below BN.out hb); have n5_ := Aside0.mk (blk_below BF.out hb); have n6_ := Aside0.mk (Kd.R_below HN.out hb); clear HB HBW HO BP BN BF HN; have HBW := n0_; have HB := n1_; have HO := n2_; have BP := n3_; have BN := n4_; have BF := n5_; have HN := n6_; clear n0_ n1_ n2_ n3_ n4_ n5_ n6_; clear hb hbox hg; have hx : w2.cell? ⟨gn, 0, none⟩ = some (.slice An names.length cn) := (blk_cell BN.out 0).trans rfl; have hfz := blk_frozen BN.out 0)
    | (go_at_call 28; refine (slices_BinarySearch_string_string.calls K _ _ names s tt0 is w2 (Kd.R_reads' HN.out).2.2 (Kd.R_reads' HN.out).2.1 HS.out).mono ?_; rintro e w3 ⟨rfl, hd⟩; have hb := hd.below; have n0_ := Aside0.mk (below_step HBW.out hb); have n1_ := Aside0.mk (below_step HB.out hb); have n2_ := Aside0.mk (Kd.R_below HO.out hb); have n3_ := Aside0.mk (blk_below BP.out hb); have n5_ := Aside0.mk (blk_below BF.out hb); clear HB HBW HO BP BF; have HBW := n0_; have HB := n1_; have HO := n2_; have BP := n3_; have BF := n5_; clear n0_ n1_ n2_ n3_ n5_; clear hb hd; have hx2 : w3.cell? ⟨gp, 0, none⟩ = some v := (blk_cell BP.out 0).trans rfl; have hfz2 := blk_frozen BP.out 0; have hx3 : w3.cell? ⟨gf, 0, none⟩ = some (.int .i64 fr) := (blk_cell BF.out 0).trans rfl)
    | ((with_reducible refine gate_builtin (b := .append) (xs := #[.tmp 15, .tmp 19]) rfl ?_); at_builtin; refine Kd.R_append k53 (w0 := w0) w0.heap.size rfl (.tmp 15) (.tmp 19) 51 53 (.agg #[.int .i64 0, .int .i64 0]) 16 rfl Try.underlying51 info53n rfl (by decide) (by omega) v (out0 ++ L) ⟨fr, tt0⟩ [.int .i64 fr, .int .i64 tt0] (fun k => some k = v.ownBlock ∨ W.heap.size ≤ k) (fun _ => False) rfl rfl ?aP (fun _ hk => hk.elim) ?aF ?aO ?aB ?aS ?aL ?_; (case aP => exact k53_mkM _ _ _ ⟨fr, tt0⟩); (case aB => exact HB.out); (case aF => exact (fun k hk => .inr (Nat.le_trans HBW.out.size hk))); (case aO => exact HO.out); (case aS => exact HB.out.size); (case aL => exact LN.out); intro v1 w4 ho hb hg hat; rw [← HLO.out] at ho; obtain ⟨Ao, co, eo⟩ := Kd.R_slice ho; subst eo; have GG := Aside0.mk (And.intro ho (And.intro hb (And.intro hg hat))); clear ho hb hat; have BK3 := Aside0.mk (blk_grown BP.out hg NEP.out); clear hg; have hx4 : w4.cell? ⟨gp, 0, none⟩ = some v := (blk_cell BK3.out 0).trans rfl; have hfz4 := blk_frozen BK3.out 0))
  first | go_end0 | ((try simp only [Exit.inBlock, Exit.then]); refine bodyPost_ret (results_none rfl _ _ _) rfl ?_)
  exact ⟨by first | rfl | (simp; done), FIN.out _ _ _ HBW.out GG.out.2.1 (by rw [← HLO.out]; exact GG.out.1) GG.out.2.2.1 GG.out.2.2.2⟩
theorem needs1_takes (w0 : World) (gn gp gf : Nat) (hge : w0.heap.size ≤ gp) (vn : Value) (K : Nat) (names : List ByteArray) (fr : Int) (out0 : List S53) (all : List (S46 × ByteArray)) (hlen : out0.length + all.length ≤ 100000) (LA : List S53) (hLA : nd K names fr all = some LA) :
    Takes 29 #[.pointer (some ⟨gn, 0, none⟩), .pointer (some ⟨gp, 0, none⟩), .pointer (some ⟨gf, 0, none⟩)] w0 all (NeedsI w0 gn gp gf vn K names fr out0) where
  enters := enters_of Try.func29 (by kernel_rfl) rfl
  move := by
    rintro d ok W W' ⟨v, L, hL, hbp, hbn, hbf, hrn, hr, hok⟩ hs hm
    exact ⟨v, L, hL, (hm gp ((hok gp).2 (.inl rfl))).trans hbp, (hm gn ((hok gn).2 (.inr (.inr (.inl rfl))))).trans hbn, (hm gf ((hok gf).2 (.inr (.inr (.inr (.inl rfl)))))).trans hbf,
      Kd.R_move hrn (fun k hk => hm k ((hok k).2 (.inr (.inr (.inr (.inr hk)))))), Kd.R_move hr (fun k hk => hm k ((hok k).2 (.inr (.inl hk)))), hok⟩
  lt := by
    rintro d ok W ⟨v, L, hL, hbp, hbn, hbf, hrn, hr, hok⟩ k hk
    rcases (hok k).1 hk with rfl | h | rfl | rfl | h
    · exact blk_lt hbp
    · exact Kd.R_lt hr k h.symm
    · exact blk_lt hbn
    · exact blk_lt hbf
    · exact Kd.R_lt hrn k h.symm
  step := by
    intro d ok W x s rest cs hI hB ha hc
    rw [ha] at hLA
    obtain ⟨u, v, h1, h2, rfl⟩ := nd_app _ _ _ hLA
    unfold nd at h2
    obtain ⟨⟨q1, q2⟩, h3, _⟩ := Option.bind_eq_some_iff.1 h2
    refine needs1_step w0 gn gp gf hge vn K names fr out0 d ?_ ok W x s cs q1 q2 h3 hI hB hc
    have := congrArg List.length ha
    simp only [List.length_append, List.length_cons] at this
    omega
def each_Needs.f (k : Nat) (p : ByteArray) (l1 : List S43) (fold : Int) (body : List S46) (names : List ByteArray) (out : List S53) (fr : Int) : Option (List S53) :=
  (usesL k body).bind fun all => (nd k names fr all).bind fun L => if out.length + all.length ≤ 100000 then some (out ++ L) else none
theorem each_Needs.mono : ∀ a0 a1 a2 a3 a4 a5 a6 k, LeO (each_Needs.f k a0 a1 a2 a3 a4 a5 a6) (each_Needs.f (k + 1) a0 a1 a2 a3 a4 a5 a6) := by
  intro a0 a1 a2 a3 a4 a5 a6 k
  unfold each_Needs.f
  exact LeO.bind (usesL_mono k _) (fun _ => LeO.bind (nd_mono k _ _ _) (fun _ => LeO.refl _))
theorem each_Needs.calls (k : Nat) (p : ByteArray) (A1 : Option Addr) (c1 : Nat) (l1 : List S43) (fold : Int) (A3 : Option Addr) (c3 : Nat) (body : List S46) (vn : Value) (names : List ByteArray) (u : Value) (out : List S53) (fr : Int) (r : List S53) (gn gp gf : Nat) (w0 w : World)
    (hB : Below w0.heap.size w0 w) (hr1 : Kd.C k43 w0 A1 l1.length l1) (hc1 : l1.length ≤ c1) (hr3 : Kd.C k46 w0 A3 body.length body) (hc3 : body.length ≤ c3) (hge : w0.heap.size ≤ gp) (hbn : w.heap[gn]? = some (.cells #[vn] 34 (0, 0))) (hbp : w.heap[gp]? = some (.cells #[u] 51 (0, 0))) (hbf : w.heap[gf]? = some (.cells #[.int .i64 fr] 3 (0, 0)))
    (hon : Kd.R Kd.string 9 w w0.heap.size (fun _ => True) vn names) (ho : Kd.R k53 53 w w0.heap.size (fun _ => True) u out) (h : each_Needs.f k p l1 fold body names out fr = some r) :
    Calls Try.prog 22 #[.agg #[.string p, .slice A1 l1.length c1, .int .i64 fold, .slice A3 body.length c3], .func (.func 29) #[] #[.pointer (some ⟨gn, 0, none⟩), .pointer (some ⟨gp, 0, none⟩), .pointer (some ⟨gf, 0, none⟩)]] w fun e w' => e = .returned (.tuple #[]) ∧ ∃ v : Value, w'.heap[gp]? = some (.cells #[v] 51 (0, 0)) ∧ w'.heap[gn]? = some (.cells #[vn] 34 (0, 0)) ∧ w'.heap[gf]? = some (.cells #[.int .i64 fr] 3 (0, 0)) ∧
      Kd.R Kd.string 9 w' w0.heap.size (fun _ => True) vn names ∧ Kd.R k53 53 w' w0.heap.size (fun _ => True) v r ∧ Below w0.heap.size w0 w' ∧ Kept w w' (fun k => k = gp ∨ some k = u.ownBlock ∨ k = gn ∨ k = gf ∨ some k = vn.ownBlock) := by
  unfold each_Needs.f at h
  obtain ⟨all, h2, h⟩ := Option.bind_eq_some_iff.1 h
  obtain ⟨LA, h3, h⟩ := Option.bind_eq_some_iff.1 h
  by_cases hl : out.length + all.length ≤ 100000
  · rw [if_pos hl] at h
    obtain rfl := Option.some.inj h
    have T := needs1_takes w0 gn gp gf hge vn k names fr out all hl LA h3
    refine (strata_each.calls T k p A1 c1 l1.length fold A3 c3 body w hB (fun k => k = gp ∨ some k = u.ownBlock ∨ k = gn ∨ k = gf ∨ some k = vn.ownBlock) ⟨u, [], rfl, hbp, hbn, hbf, Kd.R_tight rfl hon, ?_, fun k => Iff.rfl⟩ h2 hr3).mono ?_
    · rw [List.append_nil]
      exact Kd.R_tight rfl ho
    · rintro e w' ⟨he, hb', ok', ⟨v, L, hL, hbp', hbn', hbf', hrn', hr', _⟩, hk, _⟩
      rw [h3] at hL
      obtain rfl := Option.some.inj hL
      exact ⟨he, v, hbp', hbn', hbf', Kd.R_mono hrn' (fun _ _ => trivial), Kd.R_mono hr' (fun _ _ => trivial), hb', hk⟩
  · rw [if_neg hl] at h
    cases h
end Go.Proofs.Ytfkilcegdajdcaa.PZ
