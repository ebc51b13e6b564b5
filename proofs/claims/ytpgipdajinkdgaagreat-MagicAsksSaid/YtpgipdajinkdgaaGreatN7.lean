/- Arrays of two numbers: their equality. -/
import Derived.Test.YtpgipdajinkdgaaGreatN5
import Derived.Test.YtpgipdajinkdgaaGreatMN
namespace Go.Proofs.YtpgipdajinkdgaaGreatA
open Go Go.RowKit
set_option linter.all false
set_option linter.unusedSectionVars false
set_option linter.constructorNameAsVariable false
set_option linter.unusedVariables false
set_option linter.unusedSimpArgs false
theorem eqIn_A {P : Program} {t s : TypeId} {kk k : IntKind} (hu : P.underlying t = some (.array 2 s)) (hs : P.underlying s = some (.int kk)) (hz : szOf P s = some 1) {a b c e : Int} (d : Nat) : pureRun P (Op.equalIn (d + 2) t (.agg #[.int k a, .int k b]) (.agg #[.int k c, .int k e])) = some (decide (a = c) && decide (b = e)) := by
  have hn : pureRun P (sizeOf s) = some 1 := by
    obtain ⟨i, hi, e⟩ := Option.map_eq_some_iff.1 hz
    simp [sizeOf, typeInfo, pureRun_bind, pureRun_program, hi, pureRun_pure, e]
  have p0 : ∀ x y : Value, pureRun P (part s #[x, y] 0) = some x := fun x y => partI hs rfl
  have p1 : ∀ x y : Value, pureRun P (part s #[x, y] 1) = some y := fun x y => partI hs rfl
  rw [Op.equalIn]
  simp only [pureRun_bind, pureRun_under hu, Option.bind_some, hn, Std.Legacy.Range.forIn_eq_forIn_range', Std.Legacy.Range.size]
  simp only [Nat.sub_zero, Nat.reduceAdd, Nat.reduceSub, Nat.div_one, List.range', List.forIn_cons, List.forIn_nil, pureRun_bind, Nat.zero_mul, Nat.one_mul, Nat.mul_one, p0, p1, Option.bind_some, eqIn_I hs]
  by_cases e1 : a = c
  · by_cases e2 : b = e
    · simp [e1, e2, pureRun_bind, pureRun_pure, p1, eqIn_I hs]
    · simp [e1, e2, pureRun_bind, pureRun_pure, p1, eqIn_I hs]
  · simp [e1, pureRun_bind, pureRun_pure]
theorem guardP : Tryz.prog.eqGuardType Tryz.prog.depth 115 = false := by kernel_rfl
theorem aBin_P {op : BinOp} {H : List Blk} {p q : Operand} {a b : I2} (hop : op = .eql ∨ op = .neq) : aBin Tryz.prog H op 115 p q (.agg (pC a)) (.agg (pC b)) = some (.val (.sc (.bool (if op = .eql then decide (a = b) else !decide (a = b))))) := by
  unfold aBin
  rw [nilTest_flat' rfl rfl, ptrTest_flat' rfl]
  have h' : pureRun Tryz.prog (Op.equal 115 (.agg #[.int .i64 a.1, .int .i64 a.2]) (.agg #[.int .i64 b.1, .int .i64 b.2])) = some (decide (a = b)) := by
    refine (eqIn_A (P := Tryz.prog) Tryz.underlying115 Tryz.underlying3 sz3 9998).trans (congrArg some ?_)
    obtain ⟨x, y⟩ := a
    obtain ⟨u, v⟩ := b
    rw [Bool.eq_iff_iff]
    simp
  have hgs : pureRun Tryz.prog (eqGuard op 115 p q (.agg #[.int .i64 a.1, .int .i64 a.2]) (.agg #[.int .i64 b.1, .int .i64 b.2])) = some () := by
    rcases hop with rfl | rfl <;> simp [eqGuard, pureRun_bind, pureRun_pure, pureRun_program, guardP]
  rcases hop with rfl | rfl <;> simp only [pC, toV, toVs, Option.map_some, Option.isSome_some, Bool.and_self, if_true, Option.getD_some, pOut, pureRun_bind, hgs, Option.bind_some, binOp, h', pureRun_pure, ofV, reduceCtorEq, if_false]
theorem eqPair {H : List Blk} {p q : Operand} {a b : I2} : aBin Tryz.prog H .eql 115 p q (.agg [.sc (.int .i64 a.1), .sc (.int .i64 a.2)]) (.agg [.sc (.int .i64 b.1), .sc (.int .i64 b.2)]) = some (.val (.sc (.bool (decide (a = b))))) := aBin_P (.inl rfl)
theorem nePair {H : List Blk} {p q : Operand} {a b : I2} : aBin Tryz.prog H .neq 115 p q (.agg [.sc (.int .i64 a.1), .sc (.int .i64 a.2)]) (.agg [.sc (.int .i64 b.1), .sc (.int .i64 b.2)]) = some (.val (.sc (.bool (!decide (a = b))))) := aBin_P (.inr rfl)
end Go.Proofs.YtpgipdajinkdgaaGreatA

namespace Go.Proofs.YtpgipdajinkdgaaGreatA
open Go Go.RowKit
set_option linter.all false
set_option linter.unusedSectionVars false
set_option linter.constructorNameAsVariable false
set_option linter.unusedVariables false
set_option linter.unusedSimpArgs false
def dedStep (acc : List I2) (x : I2) : List I2 := if acc.getLast? = some x then acc else acc ++ [x]
def dedP (l : List I2) : List I2 := l.foldl dedStep []
theorem dedP_snoc (l : List I2) (x : I2) : dedP (l ++ [x]) = dedStep (dedP l) x := by simp [dedP]
theorem dedStep_last (acc : List I2) (x : I2) : (dedStep acc x).getLast? = some x := by
  unfold dedStep
  split
  · assumption
  · simp
theorem dedP_last : ∀ (l : List I2), (dedP l).getLast? = l.getLast? := by
  intro l
  rcases List.eq_nil_or_concat l with rfl | ⟨m, x, rfl⟩
  · rfl
  · rw [List.concat_eq_append, dedP_snoc, dedStep_last]
    simp
theorem dedP_take {l : List I2} {m : Nat} (h1 : 0 < m) (h2 : m < l.length) : dedP (l.take (m + 1)) = if l[m - 1] = l[m] then dedP (l.take m) else dedP (l.take m) ++ [l[m]] := by
  rw [List.take_succ_eq_append_getElem h2, dedP_snoc]
  unfold dedStep
  rw [dedP_last]
  have : (l.take m).getLast? = some l[m - 1] := by
    rw [List.getLast?_eq_getElem?, List.length_take, Nat.min_eq_left (by omega), List.getElem?_take_of_lt (by omega), List.getElem?_eq_getElem (by omega)]
  rw [this]
  by_cases h : l[m - 1] = l[m]
  · rw [if_pos h, if_pos (by rw [h])]
  · rw [if_neg h, if_neg (fun e => h (Option.some.inj e))]
theorem dedP_take2 {l : List I2} {q : Nat} (h2 : q + 1 < l.length) : dedP (l.take (q + 1 + 1)) = if l[q] = l[q + 1] then dedP (l.take (q + 1)) else dedP (l.take (q + 1)) ++ [l[q + 1]] := dedP_take (m := q + 1) (by omega) h2
theorem dedP_same {l : List I2} : ∀ (m : Nat), m ≤ l.length → (∀ j (hj : j + 1 < m) (hl : m ≤ l.length), l[j + 1] ≠ l[j]) → dedP (l.take m) = l.take m
  | 0, _, _ => by simp [dedP]
  | 1, h, _ => by
    rw [List.take_succ_eq_append_getElem (by omega), dedP_snoc]
    simp [dedP, dedStep]
  | m + 2, h, hn => by
    have ih := dedP_same (m + 1) (by omega) (fun j hj hl => hn j (by omega) (by omega))
    rw [dedP_take (by omega) (by omega), if_neg (fun e => hn m (by omega) h e.symm), ih, ← List.take_succ_eq_append_getElem]
theorem wrap_sub1 {a : Nat} (h0 : 0 < a) (h : a < 9000000000000000000) : IntKind.i64.wrap ((a : Int) - 1) = ((a - 1 : Nat) : Int) := by
  rw [show (a : Int) - 1 = ((a - 1 : Nat) : Int) by omega]
  exact wrap_nat (by omega)
abbrev pRows (l : List I2) : List (List AV) := l.map pC
theorem pRows_row {l : List I2} : ∀ r ∈ pRows l, r.length = 2 := fun r hr => by
  obtain ⟨s, _, rfl⟩ := List.mem_map.1 hr
  rfl
abbrev HP (H : List Blk) (b ver : Nat) (l : List I2) : List Blk := HB H b 115 2 ver (pRows l)
theorem compact_none (H : List Blk) (b ver : Nat) (l : List I2) (hb : b < H.length) (hl : l.length ≤ 100000) (hn : ∀ j (hj : j + 1 < l.length), l[j + 1] ≠ l[j]) (k : Nat) (hk : 100010 ≤ k) :
    arun Tryz.prog cf (k + 1) 82 [.own b 0 l.length 2 ver] (HP H b ver l) = some (.own b 0 l.length 2 ver, HP H b ver l) := by
  rw [arun_body rfl rfl Tryz.func82 rfl (N := 61) rfl]
  have c1 : ((l.length : Int) < 2) = (l.length < 2) := propext (by omega)
  by_cases h2 : l.length < 2
  · simp only [R0, RC, zipEnv, Nat.reduceLT, Nat.reduceAdd, Nat.reduceEqDiff, Nat.reduceLeDiff, reduceCtorEq, ↓reduceIte, ares, aresult, pr, Int.reduceEq, Int.reduceLT, Int.reduceLE, Nat.reduceSub, Nat.reduceMul, aFieldAddr, aField, aLoad, aStore, aExtract, aBox, aint, rdVar, rdCells, Value.oneCell', splice, Int.reduceNeg, zvar1, chunks, depth, some_map, Nat.reduceBEq, cf_dyn, okU, Tryz.f82, rf82, c1, h2]
  simp only [R0, RC, zipEnv, Nat.reduceLT, Nat.reduceAdd, Nat.reduceEqDiff, Nat.reduceLeDiff, reduceCtorEq, ↓reduceIte, ares, aresult, pr, Int.reduceEq, Int.reduceLT, Int.reduceLE, Nat.reduceSub, Nat.reduceMul, aFieldAddr, aField, aLoad, aStore, aExtract, aBox, aint, rdVar, rdCells, Value.oneCell', splice, Int.reduceNeg, zvar1, chunks, depth, some_map, Nat.reduceBEq, cf_dyn, okU, Tryz.f82, rf82, c1, h2]
  have hat := fun (c : List I2) => hb_get (e := 115) (sz := 2) (ver := ver) (rows := pRows c) hb
  have hne : (l.length - 1 + 1 < l.length) = False := by simp; omega
  generalize hA : aloop _ _ _ _ _ _ _ _ _ _ _ = A
  have e1 := aloop_eqR hA [0, 3] (fun j => ⟨[(0, .own b 0 l.length 2 ver), (3, .sc (.int .i64 ((j + 1 : Nat) : Int)))], HP H b ver l⟩) (l.length - 1) (by omega) rfl (by simp only [R0, RC, zipEnv, Nat.reduceLT, Nat.reduceAdd, Nat.reduceEqDiff, Nat.reduceLeDiff, reduceCtorEq, ↓reduceIte, ares, aresult, pr, Int.reduceEq, Int.reduceLT, Int.reduceLE, Nat.reduceSub, Nat.reduceMul, aFieldAddr, aField, aLoad, aStore, aExtract, aBox, aint, rdVar, rdCells, Value.oneCell', splice, Int.reduceNeg, zvar1, chunks, depth, some_map, Nat.reduceBEq, cf_dyn, okU, Tryz.f82, rf82]; rfl) (fun j hj => by
      have hj1 : j + 1 < l.length := by omega
      have hj0 : j < l.length := by omega
      have r1 := rd_row (rows := pRows l) (r := pC l[j + 1]) (sz := 2) (i := j + 1) pRows_row (by simp [List.getElem?_map, List.getElem?_eq_getElem hj1])
      have r0 := rd_row (rows := pRows l) (r := pC l[j]) (sz := 2) (i := j) pRows_row (by simp [List.getElem?_map, List.getElem?_eq_getElem hj0])
      have w1 := wrap_sub1 (a := j + 1) (by omega) (by omega)
      have w2 : IntKind.i64.wrap (((j + 1 : Nat) : Int) + 1) = ((j + 1 + 1 : Nat) : Int) := wrap_succ (by omega)
      rw [Nat.add_sub_cancel] at w1
      simp only [pC] at r1 r0
      simp only [R0, RC, zipEnv, Nat.reduceLT, Nat.reduceAdd, Nat.reduceEqDiff, Nat.reduceLeDiff, reduceCtorEq, ↓reduceIte, ares, aresult, pr, Int.reduceEq, Int.reduceLT, Int.reduceLE, Nat.reduceSub, Nat.reduceMul, aFieldAddr, aField, aLoad, aStore, aExtract, aBox, aint, rdVar, Value.oneCell', Int.reduceNeg, zvar1, chunks, depth, some_map, Nat.reduceBEq, cf_dyn, okU, Tryz.f82, rf82, hj1, hj0, hat, r1, r0, w1, w2, eqPair, hn j hj1]) (by simp only [R0, RC, zipEnv, Nat.reduceLT, Nat.reduceAdd, Nat.reduceEqDiff, Nat.reduceLeDiff, reduceCtorEq, ↓reduceIte, ares, aresult, pr, Int.reduceEq, Int.reduceLT, Int.reduceLE, Nat.reduceSub, Nat.reduceMul, aFieldAddr, aField, aLoad, aStore, aExtract, aBox, aint, rdVar, rdCells, Value.oneCell', splice, Int.reduceNeg, zvar1, chunks, depth, some_map, Nat.reduceBEq, cf_dyn, okU, Tryz.f82, rf82, hne]; rfl) rfl
  rw [e1]
  simp only [R0, RC, zipEnv, Nat.reduceLT, Nat.reduceAdd, Nat.reduceEqDiff, Nat.reduceLeDiff, reduceCtorEq, ↓reduceIte, ares, aresult, pr, Int.reduceEq, Int.reduceLT, Int.reduceLE, Nat.reduceSub, Nat.reduceMul, aFieldAddr, aField, aLoad, aStore, aExtract, aBox, aint, rdVar, rdCells, Value.oneCell', splice, Int.reduceNeg, zvar1, chunks, depth, some_map, Nat.reduceBEq, cf_dyn, okU, Tryz.f82, rf82]
theorem pRows_len {l : List I2} : (pRows l).flatten.length = l.length * 2 := by rw [flat_len2 pRows_row, List.length_map]
theorem pRows_set {l : List I2} {i : Nat} {x : I2} (h : i < l.length) : splice (pRows l).flatten (i * 2) [.sc (.int .i64 x.1), .sc (.int .i64 x.2)] = (pRows (l.set i x)).flatten := by
  have := splice_row (rows := pRows l) (i := i) (r := pC x) (sz := 2) pRows_row rfl (by simpa using h)
  rw [show pRows (l.set i x) = (pRows l).set i (pC x) by simp [pRows, List.map_set]]
  exact this
theorem pRows_zero {l : List I2} {m : Nat} (h : m ≤ l.length) : splice (pRows l).flatten (m * 2) (List.replicate (l.length - m) [AV.sc (.int .i64 0), AV.sc (.int .i64 0)]).flatten = (pRows (l.take m ++ List.replicate (l.length - m) (0, 0))).flatten := by
  unfold splice
  have e0 : pRows l = pRows (l.take m) ++ pRows (l.drop m) := by rw [← List.map_append, List.take_append_drop]
  have e1 : (pRows (l.take m)).flatten.length = m * 2 := by rw [pRows_len, List.length_take, Nat.min_eq_left h]
  have e2 : (List.replicate (l.length - m) [AV.sc (.int .i64 0), AV.sc (.int .i64 0)]).flatten.length = (l.length - m) * 2 := by
    rw [flat_len' (sz := 2) (fun r hr => by rw [(List.mem_replicate.1 hr).2]; rfl), List.length_replicate]
  rw [List.drop_eq_nil_of_le (by rw [e2, pRows_len]; omega), List.append_nil, e0, List.flatten_append, List.take_left' e1]
  unfold pRows
  rw [List.map_append, List.flatten_append, List.map_replicate]
  rfl
theorem compact_some (H : List Blk) (b ver : Nat) (l : List I2) (hb : b < H.length) (hl : l.length ≤ 100000) (j0 : Nat) (hj0 : j0 + 1 < l.length) (hd : l[j0 + 1] = l[j0]) (hn : ∀ j (hj : j < j0), l[j + 1] ≠ l[j]) (k : Nat) (hk : 100010 ≤ k) :
    arun Tryz.prog cf (k + 1) 82 [.own b 0 l.length 2 ver] (HP H b ver l) = some (.own b 0 (dedP l).length 2 ver, HP H b ver (dedP l ++ List.replicate (l.length - (dedP l).length) (0, 0))) := by
  rw [arun_body rfl rfl Tryz.func82 rfl (N := 61) rfl]
  have c1 : ((l.length : Int) < 2) = False := by simp; omega
  have h2 : ¬ l.length < 2 := by omega
  simp only [R0, RC, zipEnv, Nat.reduceLT, Nat.reduceAdd, Nat.reduceEqDiff, Nat.reduceLeDiff, reduceCtorEq, ↓reduceIte, ares, aresult, pr, Int.reduceEq, Int.reduceLT, Int.reduceLE, Nat.reduceSub, Nat.reduceMul, aFieldAddr, aField, aLoad, aStore, aExtract, aBox, aint, rdVar, rdCells, Value.oneCell', splice, Int.reduceNeg, zvar1, chunks, depth, some_map, Nat.reduceBEq, cf_dyn, okU, Tryz.f82, rf82, c1, h2]
  have hat := fun (c : List I2) => hb_get (e := 115) (sz := 2) (ver := ver) (rows := pRows c) hb
  have hset : ∀ c c2 : List I2, (HB H b 115 2 ver (pRows c)).set b ⟨115, 2, ver, true, (pRows c2).flatten, .cells⟩ = HB H b 115 2 ver (pRows c2) := fun c c2 => hb_set
  -- the numbers behind the first like
  have hD0 : dedP (l.take (j0 + 1 + 1)) = l.take (j0 + 1) := by
    rw [dedP_take (by omega) hj0, if_pos (by simpa using hd.symm), dedP_same (j0 + 1) (by omega) (fun j hj hl => hn j (by omega))]
  generalize hA : aloop _ _ _ _ _ _ _ _ _ _ _ = A
  have e1 := aloop_eqR hA [0, 3] (fun j => ⟨[(0, .own b 0 l.length 2 ver), (3, .sc (.int .i64 ((j + 1 : Nat) : Int)))], HP H b ver l⟩) j0 (by omega) rfl (by simp only [R0, RC, zipEnv, Nat.reduceLT, Nat.reduceAdd, Nat.reduceEqDiff, Nat.reduceLeDiff, reduceCtorEq, ↓reduceIte, ares, aresult, pr, Int.reduceEq, Int.reduceLT, Int.reduceLE, Nat.reduceSub, Nat.reduceMul, aFieldAddr, aField, aLoad, aStore, aExtract, aBox, aint, rdVar, rdCells, Value.oneCell', splice, Int.reduceNeg, zvar1, chunks, depth, some_map, Nat.reduceBEq, cf_dyn, okU, Tryz.f82, rf82]; rfl) (fun j hj => by
      have hj1 : j + 1 < l.length := by omega
      have hj0 : j < l.length := by omega
      have r1 := rd_row (rows := pRows l) (r := pC l[j + 1]) (sz := 2) (i := j + 1) pRows_row (by simp [List.getElem?_map, List.getElem?_eq_getElem hj1])
      have r0 := rd_row (rows := pRows l) (r := pC l[j]) (sz := 2) (i := j) pRows_row (by simp [List.getElem?_map, List.getElem?_eq_getElem hj0])
      have w1 := wrap_sub1 (a := j + 1) (by omega) (by omega)
      have w2 : IntKind.i64.wrap (((j + 1 : Nat) : Int) + 1) = ((j + 1 + 1 : Nat) : Int) := wrap_succ (by omega)
      rw [Nat.add_sub_cancel] at w1
      simp only [pC] at r1 r0
      simp only [R0, RC, zipEnv, Nat.reduceLT, Nat.reduceAdd, Nat.reduceEqDiff, Nat.reduceLeDiff, reduceCtorEq, ↓reduceIte, ares, aresult, pr, Int.reduceEq, Int.reduceLT, Int.reduceLE, Nat.reduceSub, Nat.reduceMul, aFieldAddr, aField, aLoad, aStore, aExtract, aBox, aint, rdVar, Value.oneCell', Int.reduceNeg, zvar1, chunks, depth, some_map, Nat.reduceBEq, cf_dyn, okU, Tryz.f82, rf82, hj1, hj0, hat, r1, r0, w1, w2, eqPair, hn j hj]) (by
      have hj0' : j0 < l.length := by omega
      have r1 := rd_row (rows := pRows l) (r := pC l[j0 + 1]) (sz := 2) (i := j0 + 1) pRows_row (by simp [List.getElem?_map, List.getElem?_eq_getElem hj0])
      have r0 := rd_row (rows := pRows l) (r := pC l[j0]) (sz := 2) (i := j0) pRows_row (by simp [List.getElem?_map, List.getElem?_eq_getElem hj0'])
      have w1 := wrap_sub1 (a := j0 + 1) (by omega) (by omega)
      rw [Nat.add_sub_cancel] at w1
      simp only [pC] at r1 r0
      have hle : (j0 + 1 ≤ l.length) = True := by simp; omega
      have hne : (j0 + 1 = l.length) = False := by simp; omega
      simp only [R0, RC, zipEnv, Nat.reduceLT, Nat.reduceAdd, Nat.reduceEqDiff, Nat.reduceLeDiff, reduceCtorEq, ↓reduceIte, ares, aresult, pr, Int.reduceEq, Int.reduceLT, Int.reduceLE, Nat.reduceSub, Nat.reduceMul, aFieldAddr, aField, aLoad, aStore, aExtract, aBox, aint, rdVar, Value.oneCell', Int.reduceNeg, zvar1, chunks, depth, some_map, Nat.reduceBEq, cf_dyn, okU, Tryz.f82, rf82, hj0, hj0', hat, r1, r0, w1, eqPair, hd, hle, hne]
      generalize hB : aloop _ _ _ _ _ _ _ _ _ _ _ = B
      obtain ⟨s, ⟨C, rfl, hC1, hC2, hC3, hC4⟩, e2⟩ := aloop_inv2 hB [0, 3, 4, 5] (fun i s => ∃ C : List I2, s = ⟨[(0, .own b 0 l.length 2 ver), (3, .sc (.int .i64 ((dedP (l.take (j0 + 1 + (i + 1)))).length : Nat))), (4, .own b (j0 + 1) (l.length - (j0 + 1)) 2 ver), (5, .sc (.int .i64 ((i + 1 : Nat) : Int)))], HP H b ver C⟩ ∧ C.length = l.length ∧ C.take (dedP (l.take (j0 + 1 + (i + 1)))).length = dedP (l.take (j0 + 1 + (i + 1))) ∧ C.drop (j0 + 1 + i) = l.drop (j0 + 1 + i) ∧ (dedP (l.take (j0 + 1 + (i + 1)))).length ≤ j0 + 1 + i) (l.length - (j0 + 1) - 1) (by omega) rfl
        ⟨l, by
          have : (dedP (l.take (j0 + 1 + (0 + 1)))).length = j0 + 1 := by rw [Nat.zero_add, hD0, List.length_take]; omega
          rw [this]
          simp only [R0, RC, zipEnv, Nat.reduceLT, Nat.reduceAdd, Nat.reduceEqDiff, Nat.reduceLeDiff, reduceCtorEq, ↓reduceIte, ares, aresult, pr, Int.reduceEq, Int.reduceLT, Int.reduceLE, Nat.reduceSub, Nat.reduceMul, aFieldAddr, aField, aLoad, aStore, aExtract, aBox, aint, rdVar, rdCells, Value.oneCell', splice, Int.reduceNeg, zvar1, chunks, depth, some_map, Nat.reduceBEq, cf_dyn, okU, Tryz.f82, rf82]
          rfl, rfl, by rw [Nat.zero_add, hD0, List.length_take, Nat.min_eq_left (by omega)], rfl, by rw [Nat.zero_add, hD0, List.length_take]; omega⟩
        (fun i hi s ⟨C, hs, g1, g2, g3, g4⟩ => by
          subst hs
          obtain ⟨q, hq⟩ : ∃ q, q = j0 + 1 + i := ⟨_, rfl⟩
          have hq1 : q + 1 < l.length := by omega
          have hCq : ∀ x (hx : x < l.length), q ≤ x → C[x]? = some l[x] := fun x hx hqx => by
            have := congrArg (fun m => m[x - q]?) g3
            simp only [List.getElem?_drop, ← hq] at this
            rw [show q + (x - q) = x by omega, List.getElem?_eq_getElem hx] at this
            exact this
          have r1 := rd_row (rows := pRows C) (r := pC l[q + 1]) (sz := 2) (i := j0 + 1 + (i + 1)) pRows_row (by rw [show j0 + 1 + (i + 1) = q + 1 by omega]; simp [List.getElem?_map, hCq (q + 1) hq1 (by omega)])
          have r0 := rd_row (rows := pRows C) (r := pC l[q]) (sz := 2) (i := j0 + 1 + i) pRows_row (by rw [← hq]; simp [List.getElem?_map, hCq q (by omega) (Nat.le_refl _)])
          have w1 := wrap_sub1 (a := i + 1) (by omega) (by omega)
          have w2 : IntKind.i64.wrap (((i + 1 : Nat) : Int) + 1) = ((i + 1 + 1 : Nat) : Int) := wrap_succ (by omega)
          rw [Nat.add_sub_cancel] at w1
          simp only [pC] at r1 r0
          have b1 : (i + 1 < l.length - (j0 + 1)) = True := by simp; omega
          have b0 : (i < l.length - (j0 + 1)) = True := by simp; omega
          have hT := dedP_take2 (l := l) hq1
          have eT : l.take (j0 + 1 + (i + 1)) = l.take (q + 1) := by rw [hq]; rfl
          have eT2 : l.take (j0 + 1 + (i + 1 + 1)) = l.take (q + 1 + 1) := by rw [hq]; rfl
          rw [eT] at g2 g4 ⊢
          rw [eT2]
          by_cases hx : l[q + 1] = l[q]
          · rw [if_pos hx.symm] at hT
            rw [hT]
            refine ⟨_, by
              simp only [R0, RC, zipEnv, Nat.reduceLT, Nat.reduceAdd, Nat.reduceEqDiff, Nat.reduceLeDiff, reduceCtorEq, ↓reduceIte, ares, aresult, pr, Int.reduceEq, Int.reduceLT, Int.reduceLE, Nat.reduceSub, Nat.reduceMul, aFieldAddr, aField, aLoad, aStore, aExtract, aBox, aint, rdVar, Value.oneCell', Int.reduceNeg, zvar1, chunks, depth, some_map, Nat.reduceBEq, cf_dyn, okU, Tryz.f82, rf82, b1, b0, hat, r1, r0, w1, w2, nePair, hx], C, rfl, g1, g2, ?_, by omega⟩
            have := congrArg (List.drop 1) g3
            rwa [List.drop_drop, List.drop_drop] at this
          · rw [if_neg (fun e => hx e.symm)] at hT
            rw [hT]
            obtain ⟨D, hD⟩ : ∃ D, D = dedP (l.take (q + 1)) := ⟨_, rfl⟩
            rw [← hD] at g2 g4 ⊢
            have hDC : D.length < C.length := by omega
            have hsp := pRows_set (l := C) (i := D.length) (x := l[q + 1]) hDC
            have b3 : (D.length < l.length) = True := by simp; omega
            have b4 : (D.length * 2 + 2 ≤ (pRows C).flatten.length) = True := by rw [pRows_len]; simp; omega
            have w3 : IntKind.i64.wrap ((D.length : Int) + 1) = ((D.length + 1 : Nat) : Int) := wrap_succ (by omega)
            refine ⟨_, by
              simp only [R0, RC, zipEnv, Nat.reduceLT, Nat.reduceAdd, Nat.reduceEqDiff, Nat.reduceLeDiff, reduceCtorEq, ↓reduceIte, ares, aresult, pr, Int.reduceEq, Int.reduceLT, Int.reduceLE, Nat.reduceSub, Nat.reduceMul, aFieldAddr, aField, aLoad, aStore, aExtract, aBox, aint, rdVar, Value.oneCell', Int.reduceNeg, zvar1, chunks, depth, some_map, Nat.reduceBEq, cf_dyn, okU, Tryz.f82, rf82, b1, b0, hat, r1, r0, w1, w2, nePair, hx, b3, b4, hsp, hset, w3]
              rfl, C.set D.length l[q + 1], ?_, ?_, ?_, ?_, ?_⟩
            · rw [List.length_append]
              rfl
            · rw [List.length_set, g1]
            · rw [List.length_append, List.length_singleton, List.take_succ_eq_append_getElem (by rw [List.length_set]; exact hDC), List.getElem_set_self, List.take_set_of_le (Nat.le_refl _), g2]
            · have := congrArg (List.drop 1) g3
              rw [List.drop_drop, List.drop_drop] at this
              rw [List.drop_set_of_lt (by omega)]
              exact this
            · rw [List.length_append, List.length_singleton]
              omega)
        (fun s ⟨C, hs, g1, g2, g3, g4⟩ => by
          subst hs
          have b1 : (l.length - (j0 + 1) - 1 + 1 < l.length - (j0 + 1)) = False := by simp; omega
          simp only [R0, RC, zipEnv, Nat.reduceLT, Nat.reduceAdd, Nat.reduceEqDiff, Nat.reduceLeDiff, reduceCtorEq, ↓reduceIte, ares, aresult, pr, Int.reduceEq, Int.reduceLT, Int.reduceLE, Nat.reduceSub, Nat.reduceMul, aFieldAddr, aField, aLoad, aStore, aExtract, aBox, aint, rdVar, Value.oneCell', Int.reduceNeg, zvar1, chunks, depth, some_map, Nat.reduceBEq, cf_dyn, okU, Tryz.f82, rf82, b1])
      rw [e2]
      have b1 : (l.length - (j0 + 1) - 1 + 1 < l.length - (j0 + 1)) = False := by simp; omega
      have eL : l.take (j0 + 1 + (l.length - (j0 + 1) - 1 + 1)) = l := List.take_of_length_le (by omega)
      rw [eL] at hC2 hC4 ⊢
      obtain ⟨D, hD⟩ : ∃ D, D = dedP l := ⟨_, rfl⟩
      rw [← hD] at hC2 hC4 ⊢
      have b2 : (D.length ≤ l.length) = True := by simp; omega
      have b3 : (D.length = l.length) = False := by simp; omega
      have b4 : (l.length - D.length = 0) = False := by simp; omega
      have b5 : ((D.length + (l.length - D.length)) * 2 ≤ (pRows C).flatten.length) = True := by rw [pRows_len]; simp; omega
      have hz := pRows_zero (l := C) (m := D.length) (by omega)
      rw [hC1, hC2] at hz
      simp only [R0, RC, zipEnv, Nat.reduceLT, Nat.reduceAdd, Nat.reduceEqDiff, Nat.reduceLeDiff, reduceCtorEq, ↓reduceIte, ares, aresult, pr, Int.reduceEq, Int.reduceLT, Int.reduceLE, Nat.reduceSub, Nat.reduceMul, aFieldAddr, aField, aLoad, aStore, aExtract, aBox, aint, rdVar, Value.oneCell', Int.reduceNeg, zvar1, chunks, depth, some_map, Nat.reduceBEq, cf_dyn, okU, Tryz.f82, rf82, b1, b2, b3, b4, b5, hat, hz, hset, Nat.sub_zero]
      subst hD
      rfl) rfl
  rw [e1]
  simp only [R0, RC, zipEnv, Nat.reduceLT, Nat.reduceAdd, Nat.reduceEqDiff, Nat.reduceLeDiff, reduceCtorEq, ↓reduceIte, ares, aresult, pr, Int.reduceEq, Int.reduceLT, Int.reduceLE, Nat.reduceSub, Nat.reduceMul, aFieldAddr, aField, aLoad, aStore, aExtract, aBox, aint, rdVar, rdCells, Value.oneCell', splice, Int.reduceNeg, zvar1, chunks, depth, some_map, Nat.reduceBEq, cf_dyn, okU, Tryz.f82, rf82]
end Go.Proofs.YtpgipdajinkdgaaGreatA
