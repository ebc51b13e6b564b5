
/- antecedentlaw13.StrataPlain: the walk (the program without Fails, Fold and Let is made rule by rule; both are told to strata.Strata). -/
import Derived.Test.YtfkilcegdajdcaaPZx5
import Derived.Test.YtfkilcegdajdcaaPZx8
import Derived.Test.YtfkilcegdajdcaaGAwake
import Derived.Test.YtfkilcegdajdcaaGRaw
namespace Go.Proofs.Ytfkilcegdajdcaa.PZ
open Go.RowKit Go.Proofs.YtfkilcegdajdcaaW.PrintWords Go.Proofs.YtfkilcegdajdcaaW.PrintLast Go.Proofs.YtfkilcegdajdcaaW.PrintMore
set_option linter.unusedVariables false
set_option linter.unusedSimpArgs false
def plainL (x : S46) : S46 := if x.f0 = 2 then { x with f0 := 1 } else x
def plainB (b : List S46) : List S46 := (b.map plainL).filter fun x => decide (x.f0 ≠ 4)
def plainR (r : S39) : S39 := ⟨r.f0, 0, plainB r.f2⟩
def antecedentlaw13_StrataPlain.f (k : Nat) (l0 : List S39) (a : ByteArray) (l2 : List S43) : Option Bool :=
  (antecedentlaw13_awake.f k).bind fun t => if t = true then (antecedentlaw13_few.f k l0 a l2).bind fun b => if b = true then
    (if (l0.length ≤ 100000 ∧ ∀ r ∈ l0, r.f2.length ≤ 100000) then (strata_Strata.f k l0 a l2).bind fun p => (strata_Strata.f k (l0.map plainR) a l2).bind fun q =>
      if q.2 = 0 then (if p.2 = 0 then antecedentref13_Same.f k p.1 q.1 else some true) else some false else none) else some true else none
theorem box_at {w : World} {g : Nat} {t : TypeId} {c : Array Value} (h : w.heap[g]? = some (.cells c t (0, 0))) (off : Nat) (c' : List Value) (hc : c.toList.drop off = c') : ∀ j u, c'[j]? = some u → w.cell? ((⟨g, off, none⟩ : Addr).add j) = some u := by
  intro j u hj
  have hadd : (⟨g, off, none⟩ : Addr).add j = ⟨g, off + j, none⟩ := by unfold Addr.add; split <;> simp_all
  rw [hadd, cell_of_row w g (off + j) c t (0, 0) h, ← Array.getElem?_toList]
  rw [← hc, List.getElem?_drop] at hj
  exact hj
theorem size27 : (Try.prog.info? 27).map (·.size) = some 3 := by kernel_rfl
theorem size39 : (Try.prog.info? 39).map (·.size) = some 4 := by kernel_rfl
theorem agg25 {w : World} : (isAgg 25).run Try.prog w = .ok true w := by first | exact Try.isAgg25 _ | kernel_rfl
theorem sz25 {w : World} : (sizeOf 25).run Try.prog w = .ok 2 w := by first | exact Try.sizeOf25 _ | kernel_rfl
theorem agg39 {w : World} : (isAgg 39).run Try.prog w = .ok true w := by first | exact Try.isAgg39 _ | kernel_rfl
theorem sz39 {w : World} : (sizeOf 39).run Try.prog w = .ok 4 w := by first | exact Try.sizeOf39 _ | kernel_rfl
theorem agg27 {w : World} : (isAgg 27).run Try.prog w = .ok true w := by first | exact Try.isAgg27 _ | kernel_rfl
theorem sz27 {w : World} : (sizeOf 27).run Try.prog w = .ok 3 w := by first | exact Try.sizeOf27 _ | kernel_rfl
theorem build39 {o : Oper} {ev : Operand → Value} {W : World} {p : Operand} {a b c d : Value} (ho : o.op = .buildSlice 22 1 #[(0, p)]) (hp : ev p = .agg [a, b, c, d].toArray) : (execOp ev o).run Try.prog W = .ok (.value (.slice (some ⟨W.heap.size, 0, none⟩) 1 1)) (W.alloc (.cells [a, b, c, d].toArray 39 (0, 0))) := by
  have hu22 := Try.underlying22
  unfold execOp
  rw [ho]
  simp only [List.map_toArray, List.map_cons, List.map_nil, hp]
  go_simp
theorem list17 : ∀ {c : List Value}, c.length = 17 → ∃ v0 v1 v2 v3 v4 v5 v6 v7 v8 v9 va vb vc vd ve vf vg : Value, c = [v0, v1, v2, v3, v4, v5, v6, v7, v8, v9, va, vb, vc, vd, ve, vf, vg]
  | [v0, v1, v2, v3, v4, v5, v6, v7, v8, v9, va, vb, vc, vd, ve, vf, vg], _ => ⟨v0, v1, v2, v3, v4, v5, v6, v7, v8, v9, va, vb, vc, vd, ve, vf, vg, rfl⟩
set_option maxRecDepth 100000 in
theorem build46 {o : Oper} {ev : Operand → Value} {W : World} {c : List Value} {p : Operand} (ho : o.op = .buildSlice 37 1 #[(0, p)]) (hp : ev p = .agg c.toArray) (hl : c.length = 17) : (execOp ev o).run Try.prog W = .ok (.value (.slice (some ⟨W.heap.size, 0, none⟩) 1 1)) (W.alloc (.cells c.toArray 46 (0, 0))) := by
  obtain ⟨v0, v1, v2, v3, v4, v5, v6, v7, v8, v9, va, vb, vc, vd, ve, vf, vg, rfl⟩ := list17 hl
  have hu37 := Try.underlying37
  unfold execOp
  rw [ho]
  simp only [List.map_toArray, List.map_cons, List.map_nil, hp]
  go_simp
theorem plain_cells {w : World} {y : S46} {c : List Value} (h : k46.K w y c) : c.length = 17 ∧ (∀ u ∈ c, u.oneCell' = true) ∧ c[0]? = some (.int .i64 y.f0) ∧ (∀ z : Int, k46.K w { y with f0 := z } (c.set 0 (.int .i64 z))) := by
  have h1 := k46.K_one h
  obtain ⟨A2, c2, A16, c16, rfl, q1, q2, q3, q4⟩ := k46_open h
  exact ⟨rfl, h1, rfl, fun z => k46_mk w { y with f0 := z } q1 q2 q3 q4⟩
end Go.Proofs.Ytfkilcegdajdcaa.PZ
