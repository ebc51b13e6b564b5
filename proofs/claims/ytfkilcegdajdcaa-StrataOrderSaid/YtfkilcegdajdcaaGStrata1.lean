
/- strata.Strata's function value: it marks what hangs on itself. -/
import Derived.Test.YtfkilcegdajdcaaGEach
import Derived.Test.YtfkilcegdajdcaaGMap
import Derived.Test.YtfkilcegdajdcaaGLet
namespace Go.Proofs.Ytfkilcegdajdcaa.PZ
open Go.RowKit Go.Proofs.YtfkilcegdajdcaaW.PrintWords Go.Proofs.YtfkilcegdajdcaaW.PrintLast Go.Proofs.YtfkilcegdajdcaaW.PrintMore
set_option linter.unusedVariables false
set_option linter.unusedSimpArgs false
def mark (names : List ByteArray) (of : List Int) (n : Nat) (hp : ByteArray) (fold : Int) (lt : Bool) (st : Bool × Bool) (q : S46 × ByteArray) : Bool × Bool :=
  if wh names of n q.2 = wh names of n hp then (st.1 || (q.1.f0 == 2) || decide (fold > 0), st.2 || lt) else st
def marks (names : List ByteArray) (of : List Int) (n : Nat) (hp : ByteArray) (fold : Int) (lt : Bool) (st : Bool × Bool) (l : List (S46 × ByteArray)) : Bool × Bool := l.foldl (mark names of n hp fold lt) st
def StrataI (gw gm gx gb gc gl : Nat) (om : Obj) (names : List ByteArray) (of : List Int) (n : Nat) (hp : ByteArray) (v1 v3 : Value) (fold : Int) (lt : Bool) (st0 : Bool × Bool) (d : List (S46 × ByteArray)) (ok : Nat → Prop) (W : World) : Prop :=
  W.heap[gw]? = some (.cells #[.map (some gm)] 58 (0, 0)) ∧ W.heap[gm]? = some om ∧ W.heap[gx]? = some (.cells #[.string hp, v1, .int .i64 fold, v3] 39 (0, 0)) ∧ W.heap[gb]? = some (.cells #[.bool (marks names of n hp fold lt st0 d).1] 4 (0, 0)) ∧
    W.heap[gc]? = some (.cells #[.bool (marks names of n hp fold lt st0 d).2] 4 (0, 0)) ∧ W.heap[gl]? = some (.cells #[.bool lt] 4 (0, 0)) ∧ ∀ k, ok k ↔ (k = gw ∨ k = gm ∨ k = gx ∨ k = gb ∨ k = gc ∨ k = gl)
set_option maxHeartbeats 8000000 in
set_option maxRecDepth 100000 in
theorem strata2_step (w0 : World) (gw gm gx gb gc gl : Nat) (om : Obj) (hgb : w0.heap.size ≤ gb) (hgc : w0.heap.size ≤ gc) (nbc : gb ≠ gc) (nbl : gl ≠ gb) (ncl : gl ≠ gc) (names : List ByteArray) (of : List Int) (n : Nat) (hom : ∀ W' : World, W'.heap[gm]? = some om → MapAt names of gm n W') (hp : ByteArray) (hhp : hp.size ≤ maxLen) (v1 v3 : Value) (fold : Int) (lt : Bool) (st0 : Bool × Bool) (d : List (S46 × ByteArray)) (ok : Nat → Prop) (W : World) (x : S46) (s : ByteArray) (hs : s.size ≤ maxLen) (cs : List Value)
    (hI : StrataI gw gm gx gb gc gl om names of n hp v1 v3 fold lt st0 d ok W) (hB : Below w0.heap.size w0 W) (hc : k46.K W x cs) :
    Calls Try.prog 23 (#[.agg cs.toArray, .string s] ++ #[.pointer (some ⟨gw, 0, none⟩), .pointer (some ⟨gx, 0, none⟩), .pointer (some ⟨gb, 0, none⟩), .pointer (some ⟨gc, 0, none⟩), .pointer (some ⟨gl, 0, none⟩)]) W fun e W' => e = .returned (.tuple #[]) ∧ Below w0.heap.size w0 W' ∧ ∃ ok', StrataI gw gm gx gb gc gl om names of n hp v1 v3 fold lt st0 (d ++ [(x, s)]) ok' W' ∧ Kept W W' ok ∧ ∀ k, ok' k → ok k ∨ W.heap.size ≤ k := by
  obtain ⟨h1, h2, h3, h4, h5, h6, hok⟩ := hI
  obtain ⟨A2, c2, A16, c16, rfl, _, _, _, _⟩ := k46_open hc
  have hm1 : marks names of n hp fold lt st0 (d ++ [(x, s)]) = mark names of n hp fold lt (marks names of n hp fold lt st0 d) (x, s) := by unfold marks; rw [List.foldl_append]; rfl
  -- what stands behind it, for any two marks
  have FIN : Aside0 (∀ (w2 W' : World) (b' c' : Bool), Below W.heap.size W w2 → (W' = w2 ∧ b' = (marks names of n hp fold lt st0 d).1 ∧ c' = (marks names of n hp fold lt st0 d).2 ∨ W' = (w2.setCell ⟨gb, 0, none⟩ (.bool b')).setCell ⟨gc, 0, none⟩ (.bool c')) → (b', c') = mark names of n hp fold lt (marks names of n hp fold lt st0 d) (x, s) →
      Below w0.heap.size w0 W' ∧ ∃ ok', StrataI gw gm gx gb gc gl om names of n hp v1 v3 fold lt st0 (d ++ [(x, s)]) ok' W' ∧ Kept W W' ok ∧ ∀ k, ok' k → ok k ∨ W.heap.size ≤ k) := ⟨by
    intro w2 W' b' c' hb hW hm
    have hB2 : Below w0.heap.size w0 w2 := below_step hB hb
    have q1 := blk_below h1 hb
    have q3 := blk_below h3 hb
    have q4 := blk_below h4 hb
    have q5 := blk_below h5 hb
    have q6 := blk_below h6 hb
    have q2 : w2.heap[gm]? = W.heap[gm]? := hb.block gm (blk_lt h2)
    have nwb : gw ≠ gb := blk_ne h1 h4 (by decide)
    have nwc : gw ≠ gc := blk_ne h1 h5 (by decide)
    have nxb : gx ≠ gb := blk_ne h3 h4 (by decide)
    have nxc : gx ≠ gc := blk_ne h3 h5 (by decide)
    have hmo : ∀ g t (cells : Array Value), W.heap[g]? = some (.cells cells t (0, 0)) → gm ≠ g := by
      intro g t cells hg e
      subst e
      obtain ⟨D, ⟨es, clock, hh, _⟩, _⟩ := hom W h2
      rw [hh] at hg
      cases hg
    rcases hW with ⟨rfl, rfl, rfl⟩ | rfl
    · refine ⟨hB2, ok, ⟨q1, q2.trans h2, q3, ?_, ?_, q6, hok⟩, Kept.of_below hb ok, fun k hk => .inl hk⟩
      · rw [hm1, ← hm]; exact q4
      · rw [hm1, ← hm]; exact q5
    · have far : ∀ g, g ≠ gb → g ≠ gc → ((w2.setCell ⟨gb, 0, none⟩ (.bool b')).setCell ⟨gc, 0, none⟩ (.bool c')).heap[g]? = w2.heap[g]? := fun g a b => (Below.heap_setCell _ _ _ _ b).trans (Below.heap_setCell _ _ _ _ a)
      refine ⟨below_set (below_set hB2 hgb) hgc, ok, ⟨(far gw nwb nwc).trans q1, (far gm (hmo _ _ _ h4) (hmo _ _ _ h5)).trans (q2.trans h2), (far gx nxb nxc).trans q3, ?_, ?_, (far gl nbl ncl).trans q6, hok⟩, ((Kept.of_below hb ok).setCell (.inl ((hok gb).2 (.inr (.inr (.inr (.inl rfl)))))) _).setCell (.inl ((hok gc).2 (.inr (.inr (.inr (.inr (.inl rfl))))))) _, fun k hk => .inl hk⟩
      · rw [hm1, ← hm]
        exact (Below.heap_setCell _ _ _ _ (by exact nbc)).trans (blk_put q4 0 (.bool b') rfl)
      · rw [hm1, ← hm]
        exact blk_put ((Below.heap_setCell _ _ _ _ (by exact nbc.symm)).trans q5) 0 (.bool c') rfl⟩
  have HBW := Aside0.mk (Below.refl W.heap.size W)
  have B1 := Aside0.mk h1
  have B2 := Aside0.mk h2
  have B3 := Aside0.mk h3
  have B4 := Aside0.mk h4
  have B5 := Aside0.mk h5
  have B6 := Aside0.mk h6
  have NBC := Aside0.mk nbc
  have hmark : mark names of n hp fold lt (marks names of n hp fold lt st0 d) (x, s) = if wh names of n s = wh names of n hp then ((marks names of n hp fold lt st0 d).1 || (x.f0 == 2) || decide (fold > 0), (marks names of n hp fold lt st0 d).2 || lt) else marks names of n hp fold lt st0 d := rfl
  rw [hmark] at FIN
  obtain ⟨b0, hb0⟩ : ∃ b0, b0 = (marks names of n hp fold lt st0 d).1 := ⟨_, rfl⟩
  obtain ⟨c0, hc0⟩ : ∃ c0, c0 = (marks names of n hp fold lt st0 d).2 := ⟨_, rfl⟩
  rw [← hb0] at B4
  rw [← hc0] at B5
  rw [← hb0, ← hc0, show marks names of n hp fold lt st0 d = (b0, c0) by rw [hb0, hc0]] at FIN
  have L1 := Aside0.mk (fun (w2 : World) (hb : Below W.heap.size W w2) => (hom w2 ((hb.block gm (blk_lt h2)).trans h2)).look hs)
  have L2 := Aside0.mk (fun (w2 : World) (hb : Below W.heap.size W w2) => (hom w2 ((hb.block gm (blk_lt h2)).trans h2)).look hhp)
  clear hm1 hmark hb0 hc0 h1 h2 h3 h4 h5 h6 hok hB hc
  generalize wh names of n s = a at FIN L1
  generalize wh names of n hp = b at FIN L2
  by_cases he : a = b
  · subst he
    rw [if_pos rfl] at FIN
    have nbc1 := NBC.out
    have nbc2 := NBC.out.symm
    have nbl1 := nbl
    have ncl1 := ncl
    rcases Bool.eq_false_or_eq_true b0 with hb0 | hb0 <;> rcases Bool.eq_false_or_eq_true c0 with hc0 | hc0 <;> rcases Bool.eq_false_or_eq_true (x.f0 == 2) with hk | hk <;> rcases Bool.eq_false_or_eq_true (decide (fold > 0)) with hf | hf
    all_goals
      have hf' : decide (0 < fold) = _ := hf
      have HE := Aside0.mk (And.intro hb0 (And.intro hc0 (And.intro hk hf)))
      go_enter Try.func23, Try.ntmps23
      go_wp2_with (first | ((with_reducible refine gate_dst (N := 7) rfl ?_); refine box_event ?hg (N := 7) ?hd (cs := #[.int .i64 x.f0, .string x.f1.f0, .slice A2 x.f1.f1.length c2, .string x.f2, .string x.f3.f0, .int .i64 x.f3.f1.f0, .int .i64 x.f3.f1.f1, .string x.f3.f1.f2, .string x.f4.f0, .int .i64 x.f4.f1.f0, .int .i64 x.f4.f1.f1, .string x.f4.f1.f2, .string x.f5.f0, .int .i64 x.f5.f1.f0, .int .i64 x.f5.f1.f1, .string x.f5.f1.f2, .slice A16 x.f6.length c16]) (t := 46) ?hr ?_; (case hd => rfl); (case hg => rfl); (case hr => first | (go_simp; done) | (go_simp; rfl)); intro g7 hg w2 hbox hb; have HW := Aside0.mk (below_step HBW.out hb); clear hg; have hx1 : w2.cell? ⟨gw, 0, none⟩ = some (.map (some gm)) := (blk_cell (blk_below B1.out hb) 0).trans rfl; have hx3 : w2.cell? ⟨gx, 0, none⟩ = some (.string hp) := (blk_cell (blk_below B3.out hb) 0).trans rfl; have hx3' : w2.cell? ⟨gx, 2, none⟩ = some (.int .i64 fold) := (blk_cell (blk_below B3.out hb) 2).trans rfl; have hx4 : w2.cell? ⟨gb, 0, none⟩ = some (.bool b0) := (blk_cell (blk_below B4.out hb) 0).trans rfl; have hx5 : w2.cell? ⟨gc, 0, none⟩ = some (.bool c0) := (blk_cell (blk_below B5.out hb) 0).trans rfl; have hx6 : w2.cell? ⟨gl, 0, none⟩ = some (.bool lt) := (blk_cell (blk_below B6.out hb) 0).trans rfl; have hx7 : w2.cell? ⟨g7, 0, none⟩ = some (.int .i64 x.f0) := (blk_cell hbox 0).trans rfl; have hf4 := blk_frozen (blk_below B4.out hb) 0; have hf5 := blk_frozen (blk_below B5.out hb) 0; have hl1 := L1.out w2 HW.out; have hl2 := L2.out w2 HW.out; clear hb hbox))
      first | go_end0 | ((try simp only [Exit.inBlock, Exit.then]); refine bodyPost_ret (results_none rfl _ _ _) rfl ?_)
      refine ⟨by first | rfl | (simp; done), FIN.out w2 _ _ _ HW.out (.inr rfl) ?_⟩
      rw [HE.out.1, HE.out.2.1, HE.out.2.2.1, HE.out.2.2.2]
      first | rfl | (cases lt <;> rfl)
  · rw [if_neg he] at FIN
    have he1 := beq_eq_false_iff_ne.mpr he
    go_enter Try.func23, Try.ntmps23
    go_wp2_with (first | ((with_reducible refine gate_dst (N := 7) rfl ?_); refine box_event ?hg (N := 7) ?hd (cs := #[.int .i64 x.f0, .string x.f1.f0, .slice A2 x.f1.f1.length c2, .string x.f2, .string x.f3.f0, .int .i64 x.f3.f1.f0, .int .i64 x.f3.f1.f1, .string x.f3.f1.f2, .string x.f4.f0, .int .i64 x.f4.f1.f0, .int .i64 x.f4.f1.f1, .string x.f4.f1.f2, .string x.f5.f0, .int .i64 x.f5.f1.f0, .int .i64 x.f5.f1.f1, .string x.f5.f1.f2, .slice A16 x.f6.length c16]) (t := 46) ?hr ?_; (case hd => rfl); (case hg => rfl); (case hr => first | (go_simp; done) | (go_simp; rfl)); intro g7 hg w2 hbox hb; have HW := Aside0.mk (below_step HBW.out hb); clear hg; have hx1 : w2.cell? ⟨gw, 0, none⟩ = some (.map (some gm)) := (blk_cell (blk_below B1.out hb) 0).trans rfl; have hx3 : w2.cell? ⟨gx, 0, none⟩ = some (.string hp) := (blk_cell (blk_below B3.out hb) 0).trans rfl; have hx3' : w2.cell? ⟨gx, 2, none⟩ = some (.int .i64 fold) := (blk_cell (blk_below B3.out hb) 2).trans rfl; have hx4 : w2.cell? ⟨gb, 0, none⟩ = some (.bool b0) := (blk_cell (blk_below B4.out hb) 0).trans rfl; have hx5 : w2.cell? ⟨gc, 0, none⟩ = some (.bool c0) := (blk_cell (blk_below B5.out hb) 0).trans rfl; have hx6 : w2.cell? ⟨gl, 0, none⟩ = some (.bool lt) := (blk_cell (blk_below B6.out hb) 0).trans rfl; have hx7 : w2.cell? ⟨g7, 0, none⟩ = some (.int .i64 x.f0) := (blk_cell hbox 0).trans rfl; have hf4 := blk_frozen (blk_below B4.out hb) 0; have hf5 := blk_frozen (blk_below B5.out hb) 0; have hl1 := L1.out w2 HW.out; have hl2 := L2.out w2 HW.out; clear hb hbox))
    first | go_end0 | ((try simp only [Exit.inBlock, Exit.then]); refine bodyPost_ret (results_none rfl _ _ _) rfl ?_)
    exact ⟨by first | rfl | (simp; done), FIN.out w2 w2 b0 c0 HW.out (.inl ⟨rfl, rfl, rfl⟩) rfl⟩
theorem strata2_takes (w0 : World) (gw gm gx gb gc gl : Nat) (om : Obj) (hgb : w0.heap.size ≤ gb) (hgc : w0.heap.size ≤ gc) (nbc : gb ≠ gc) (nbl : gl ≠ gb) (ncl : gl ≠ gc) (names : List ByteArray) (of : List Int) (n : Nat) (hom : ∀ W' : World, W'.heap[gm]? = some om → MapAt names of gm n W') (hp : ByteArray) (hhp : hp.size ≤ maxLen) (v1 v3 : Value) (fold : Int) (lt : Bool) (st0 : Bool × Bool) (all : List (S46 × ByteArray)) (hall : ∀ q ∈ all, q.2.size ≤ maxLen) :
    Takes 23 #[.pointer (some ⟨gw, 0, none⟩), .pointer (some ⟨gx, 0, none⟩), .pointer (some ⟨gb, 0, none⟩), .pointer (some ⟨gc, 0, none⟩), .pointer (some ⟨gl, 0, none⟩)] w0 all (StrataI gw gm gx gb gc gl om names of n hp v1 v3 fold lt st0) where
  enters := enters_of Try.func23 (by kernel_rfl) rfl
  move := by
    rintro d ok W W' ⟨h1, h2, h3, h4, h5, h6, hok⟩ hs hm
    exact ⟨(hm gw ((hok gw).2 (.inl rfl))).trans h1, (hm gm ((hok gm).2 (.inr (.inl rfl)))).trans h2, (hm gx ((hok gx).2 (.inr (.inr (.inl rfl))))).trans h3, (hm gb ((hok gb).2 (.inr (.inr (.inr (.inl rfl)))))).trans h4, (hm gc ((hok gc).2 (.inr (.inr (.inr (.inr (.inl rfl))))))).trans h5, (hm gl ((hok gl).2 (.inr (.inr (.inr (.inr (.inr rfl))))))).trans h6, hok⟩
  lt := by
    rintro d ok W ⟨h1, h2, h3, h4, h5, h6, hok⟩ k hk
    rcases (hok k).1 hk with rfl | rfl | rfl | rfl | rfl | rfl
    · exact blk_lt h1
    · exact blk_lt h2
    · exact blk_lt h3
    · exact blk_lt h4
    · exact blk_lt h5
    · exact blk_lt h6
  step := by
    intro d ok W x s rest cs hI hB ha hc
    exact strata2_step w0 gw gm gx gb gc gl om hgb hgc nbc nbl ncl names of n hom hp hhp v1 v3 fold lt st0 d ok W x s (hall (x, s) (by rw [ha]; simp)) cs hI hB hc
def each_Strata.f (k : Nat) (p : ByteArray) (l1 : List S43) (fold : Int) (body : List S46) (names : List ByteArray) (of : List Int) (b c lt : Bool) : Option (Bool × Bool) :=
  (usesL k body).bind fun all => if (all.all fun q => decide (q.2.size ≤ 9223372036854775807)) = true then (if p.size ≤ 9223372036854775807 then some (marks names of names.length p fold lt (b, c) all) else none) else none
theorem each_Strata.mono : ∀ a0 a1 a2 a3 a4 a5 a6 a7 a8 k, LeO (each_Strata.f k a0 a1 a2 a3 a4 a5 a6 a7 a8) (each_Strata.f (k + 1) a0 a1 a2 a3 a4 a5 a6 a7 a8) := by
  intro a0 a1 a2 a3 a4 a5 a6 a7 a8 k
  unfold each_Strata.f
  exact LeO.bind (usesL_mono k _) (fun _ => LeO.refl _)
theorem each_Strata.calls (k : Nat) (p : ByteArray) (A1 : Option Addr) (c1 : Nat) (l1 : List S43) (fold : Int) (A3 : Option Addr) (c3 : Nat) (body : List S46) (names : List ByteArray) (of : List Int) (b c lt : Bool) (r1 r2 : Bool) (gw gm gx gb gc gl : Nat) (om : Obj) (w0 w : World)
    (hB : Below w0.heap.size w0 w) (hr3 : Kd.C k46 w0 A3 body.length body) (hgb : w0.heap.size ≤ gb) (hgc : w0.heap.size ≤ gc) (nbc : gb ≠ gc) (nbl : gl ≠ gb) (ncl : gl ≠ gc) (hom : ∀ W' : World, W'.heap[gm]? = some om → MapAt names of gm names.length W')
    (h1 : w.heap[gw]? = some (.cells #[.map (some gm)] 58 (0, 0))) (h2 : w.heap[gm]? = some om) (h3 : w.heap[gx]? = some (.cells #[.string p, .slice A1 l1.length c1, .int .i64 fold, .slice A3 body.length c3] 39 (0, 0))) (h4 : w.heap[gb]? = some (.cells #[.bool b] 4 (0, 0))) (h5 : w.heap[gc]? = some (.cells #[.bool c] 4 (0, 0))) (h6 : w.heap[gl]? = some (.cells #[.bool lt] 4 (0, 0)))
    (h : each_Strata.f k p l1 fold body names of b c lt = some (r1, r2)) :
    Calls Try.prog 22 #[.agg #[.string p, .slice A1 l1.length c1, .int .i64 fold, .slice A3 body.length c3], .func (.func 23) #[] #[.pointer (some ⟨gw, 0, none⟩), .pointer (some ⟨gx, 0, none⟩), .pointer (some ⟨gb, 0, none⟩), .pointer (some ⟨gc, 0, none⟩), .pointer (some ⟨gl, 0, none⟩)]] w fun e w' => e = .returned (.tuple #[]) ∧ Below w0.heap.size w0 w' ∧
      w'.heap[gw]? = some (.cells #[.map (some gm)] 58 (0, 0)) ∧ w'.heap[gm]? = some om ∧ w'.heap[gx]? = some (.cells #[.string p, .slice A1 l1.length c1, .int .i64 fold, .slice A3 body.length c3] 39 (0, 0)) ∧ w'.heap[gb]? = some (.cells #[.bool r1] 4 (0, 0)) ∧ w'.heap[gc]? = some (.cells #[.bool r2] 4 (0, 0)) ∧ w'.heap[gl]? = some (.cells #[.bool lt] 4 (0, 0)) ∧
      Kept w w' (fun k => k = gw ∨ k = gm ∨ k = gx ∨ k = gb ∨ k = gc ∨ k = gl) := by
  unfold each_Strata.f at h
  obtain ⟨all, hu, h⟩ := Option.bind_eq_some_iff.1 h
  by_cases ha : (all.all fun q => decide (q.2.size ≤ 9223372036854775807)) = true
  · rw [if_pos ha] at h
    by_cases hp : p.size ≤ 9223372036854775807
    · rw [if_pos hp] at h
      have hm := Option.some.inj h
      have T := strata2_takes w0 gw gm gx gb gc gl om hgb hgc nbc nbl ncl names of names.length hom p hp (.slice A1 l1.length c1) (.slice A3 body.length c3) fold lt (b, c) all (fun q hq => of_decide_eq_true (List.all_eq_true.1 ha q hq))
      refine (strata_each.calls T k p A1 c1 l1.length fold A3 c3 body w hB (fun k => k = gw ∨ k = gm ∨ k = gx ∨ k = gb ∨ k = gc ∨ k = gl) ⟨h1, h2, h3, h4, h5, h6, fun k => Iff.rfl⟩ hu hr3).mono ?_
      rintro e w' ⟨he, hb', ok', ⟨q1, q2, q3, q4, q5, q6, _⟩, hk, _⟩
      rw [hm] at q4 q5
      exact ⟨he, hb', q1, q2, q3, q4, q5, q6, hk⟩
    · rw [if_neg hp] at h; cases h
  · rw [if_neg ha] at h; cases h
#print axioms each_Strata.calls
end Go.Proofs.Ytfkilcegdajdcaa.PZ
