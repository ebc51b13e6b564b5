/- Structs' equality: terms. -/
import Derived.Test.YtpgipdajinkdgaaGreatB
namespace Go.Proofs.YtpgipdajinkdgaaGreatA
open Go Go.RowKit
set_option linter.all false
set_option linter.unusedSectionVars false
set_option linter.constructorNameAsVariable false
set_option linter.unusedVariables false
set_option linter.unusedSimpArgs false
theorem eqIn_I {P : Program} {t : TypeId} {kk k : IntKind} {a c : Int} (h : P.underlying t = some (.int kk)) (d : Nat) : pureRun P (Op.equalIn (d + 1) t (.int k a) (.int k c)) = some (decide (a = c)) := by
  simp only [Op.equalIn, pureRun_bind, pureRun_under h, Option.bind_some, pureRun_pure, if_true]
  rfl
theorem partI {P : Program} {t : TypeId} {kk : IntKind} {cs : Array Value} {i : Nat} {v : Value} (h : P.underlying t = some (.int kk)) (hv : cs[i]? = some v) : pureRun P (part t cs i) = some v := by
  simp [part, isAgg, pureRun_bind, pureRun_under h, pureRun_pure, hv]
theorem pEq_struct {P : Program} {t : TypeId} {fs : Array Field} {xs ys : Array Value} (ht : P.underlying t = some (.struct fs)) (hp : P.stoodInHeld t = false) (d : Nat) : pureRun P (Op.equalIn (d + 1) t (.agg xs) (.agg ys)) = pureRun P (Op.eqFields d xs ys fs.toList) := by
  rw [Op.equalIn]
  simp only [pureRun_bind, pureRun_under ht, Option.bind_some, pureRun_program, hp, Bool.false_eq_true, if_false]
  rw [← Array.forIn_toList]
  generalize fs.toList = l
  clear ht
  induction l with
  | nil => simp [Op.eqFields, pureRun_pure]
  | cons f fs ih =>
    simp only [List.forIn_cons, Op.eqFields, pureRun_bind]
    by_cases hn : f.name ≠ "_"
    · rw [if_pos hn, if_pos hn]
      simp only [pureRun_bind]
      cases pureRun P (part f.type xs f.offset) with
      | none => rfl
      | some a =>
        simp only [Option.bind_some]
        cases pureRun P (part f.type ys f.offset) with
        | none => rfl
        | some b =>
          simp only [Option.bind_some]
          cases pureRun P (Op.equalIn d f.type a b) with
          | none => rfl
          | some r =>
            simp only [Option.bind_some]
            cases r
            · simp [pureRun_pure, pureRun_bind]
            · simpa [pureRun_pure, pureRun_bind] using ih
    · rw [if_neg hn, if_neg hn]
      simpa [pureRun_pure, pureRun_bind] using ih
theorem pSize {P : Program} {t : TypeId} {n : Nat} (hz : szOf P t = some n) : pureRun P (sizeOf t) = some n := by
  obtain ⟨i, hi, e⟩ := Option.map_eq_some_iff.1 hz
  simp [sizeOf, typeInfo, pureRun_bind, pureRun_program, hi, pureRun_pure, e]
theorem pPart_agg {P : Program} {t : TypeId} {fs : Array Field} {cs ds : Array Value} {off n : Nat} (hu : P.underlying t = some (.struct fs)) (hz : szOf P t = some n) (he : cs.extract off (off + n) = ds) : pureRun P (part t cs off) = some (.agg ds) := by
  subst he
  have ha : pureRun P (isAgg t) = some true := by simp [isAgg, pureRun_bind, pureRun_under hu, pureRun_pure]
  rw [part]
  simp only [pureRun_bind, ha, Option.bind_some, if_true, pSize hz, pureRun_pure]
theorem pFields_nil {P : Program} {d : Nat} {xs ys : Array Value} : pureRun P (Op.eqFields d xs ys []) = some true := by simp only [Op.eqFields, pureRun_pure]
theorem pFields_cons {P : Program} {d : Nat} {xs ys : Array Value} {f : Field} {fs : List Field} {x y : Value} {b r : Bool} (hn : f.name ≠ "_") (hx : pureRun P (part f.type xs f.offset) = some x) (hy : pureRun P (part f.type ys f.offset) = some y) (he : pureRun P (Op.equalIn d f.type x y) = some b) (hr : pureRun P (Op.eqFields d xs ys fs) = some r) : pureRun P (Op.eqFields d xs ys (f :: fs)) = some (b && r) := by
  simp only [Op.eqFields, if_pos hn, pureRun_bind, hx, hy, he, Option.bind_some]
  cases b
  · simp [pureRun_pure]
  · simpa using hr
theorem heldTerm : Tryz.prog.stoodInHeld 35 = false := by kernel_rfl
theorem heldVal : Tryz.prog.stoodInHeld 33 = false := by kernel_rfl
theorem eqT {a b : TermT} (d : Nat) : pureRun Tryz.prog (Op.equalIn (d + 3) 35 (.agg #[.string a.v, .int .i64 a.k, .int .i64 a.n, .string a.s]) (.agg #[.string b.v, .int .i64 b.k, .int .i64 b.n, .string b.s])) = some (decide (a = b)) := by
  rw [pEq_struct Tryz.underlying35 heldTerm]
  have hv : pureRun Tryz.prog (Op.equalIn (d + 2) 33 (.agg #[.int .i64 a.k, .int .i64 a.n, .string a.s]) (.agg #[.int .i64 b.k, .int .i64 b.n, .string b.s])) = some (decide (a.k = b.k) && (decide (a.n = b.n) && (decide (a.s = b.s) && true))) := by
    rw [pEq_struct Tryz.underlying33 heldVal]
    exact pFields_cons (by decide) (partI Tryz.underlying3 rfl) (partI Tryz.underlying3 rfl) (eqIn_I Tryz.underlying3 _) (pFields_cons (by decide) (partI Tryz.underlying2 rfl) (partI Tryz.underlying2 rfl) (eqIn_I Tryz.underlying2 _) (pFields_cons (by decide) (part_S Tryz.underlying9 rfl) (part_S Tryz.underlying9 rfl) (eqIn_S Tryz.underlying9 _) pFields_nil))
  refine Eq.trans (pFields_cons (by decide) (part_S Tryz.underlying9 rfl) (part_S Tryz.underlying9 rfl) (eqIn_S Tryz.underlying9 _) (pFields_cons (by decide) (pPart_agg Tryz.underlying33 sz33 rfl) (pPart_agg Tryz.underlying33 sz33 rfl) hv pFields_nil)) ?_
  refine congrArg some ?_
  obtain ⟨a1, a2, a3, a4⟩ := a
  obtain ⟨b1, b2, b3, b4⟩ := b
  rw [Bool.eq_iff_iff]
  simp
theorem guardTerm : Tryz.prog.eqGuardType Tryz.prog.depth 35 = false := by kernel_rfl
theorem aBin_T {op : BinOp} {H : List Blk} {p q : Operand} {a b : TermT} (hop : op = .eql ∨ op = .neq) : aBin Tryz.prog H op 35 p q (.agg [.sc (.string a.v), .sc (.int .i64 a.k), .sc (.int .i64 a.n), .sc (.string a.s)]) (.agg [.sc (.string b.v), .sc (.int .i64 b.k), .sc (.int .i64 b.n), .sc (.string b.s)]) = some (.val (.sc (.bool (if op = .eql then decide (a = b) else !decide (a = b))))) := by
  unfold aBin
  rw [nilTest_flat' rfl rfl, ptrTest_flat' rfl]
  have h' : pureRun Tryz.prog (Op.equal 35 (.agg #[.string a.v, .int .i64 a.k, .int .i64 a.n, .string a.s]) (.agg #[.string b.v, .int .i64 b.k, .int .i64 b.n, .string b.s])) = some (decide (a = b)) := eqT 9997
  have hgs : pureRun Tryz.prog (eqGuard op 35 p q (.agg #[.string a.v, .int .i64 a.k, .int .i64 a.n, .string a.s]) (.agg #[.string b.v, .int .i64 b.k, .int .i64 b.n, .string b.s])) = some () := by
    rcases hop with rfl | rfl <;> simp [eqGuard, pureRun_bind, pureRun_pure, pureRun_program, guardTerm]
  rcases hop with rfl | rfl <;> simp only [toV, toVs, Option.map_some, Option.isSome_some, Bool.and_self, if_true, Option.getD_some, pOut, pureRun_bind, hgs, Option.bind_some, binOp, h', pureRun_pure, ofV, reduceCtorEq, if_false]
theorem neTerm {H : List Blk} {p q : Operand} {a b : TermT} : aBin Tryz.prog H .neq 35 p q (.agg [.sc (.string a.v), .sc (.int .i64 a.k), .sc (.int .i64 a.n), .sc (.string a.s)]) (.agg [.sc (.string b.v), .sc (.int .i64 b.k), .sc (.int .i64 b.n), .sc (.string b.s)]) = some (.val (.sc (.bool (!decide (a = b))))) := aBin_T (.inr rfl)
end Go.Proofs.YtpgipdajinkdgaaGreatA

namespace Go.Proofs.YtpgipdajinkdgaaGreatA
open Go Go.RowKit
set_option linter.all false
set_option linter.unusedSectionVars false
set_option linter.constructorNameAsVariable false
set_option linter.unusedVariables false
abbrev tRows (l : List TermT) : List (List AV) := l.map TermT.c
theorem tRows_row {l : List TermT} : ∀ r ∈ tRows l, r.length = 4 := fun r hr => by
  obtain ⟨s, _, rfl⟩ := List.mem_map.1 hr
  rfl
theorem tRows_stay {l : List TermT} : ∀ r ∈ tRows l, ∀ x ∈ r, Stays x ∧ ∃ u, x = .sc u := fun r hr x hx => by
  obtain ⟨s, _, rfl⟩ := List.mem_map.1 hr
  simp only [TermT.c, List.mem_cons, List.not_mem_nil, or_false] at hx
  rcases hx with rfl | rfl | rfl | rfl
  · exact ⟨stays_str, _, rfl⟩
  · exact ⟨stays_int, _, rfl⟩
  · exact ⟨stays_int, _, rfl⟩
  · exact ⟨stays_str, _, rfl⟩
end Go.Proofs.YtpgipdajinkdgaaGreatA

namespace Go.Proofs.YtpgipdajinkdgaaGreatA
open Go Go.RowKit
set_option linter.all false
set_option linter.unusedSectionVars false
set_option linter.constructorNameAsVariable false
set_option linter.unusedVariables false
set_option linter.unusedSimpArgs false
def givenN (l : List TermT) (s : ByteArray) (j : Nat) : List TermT := ((List.range j).filter fun i => decide (((byteAt s i).toNat : Int) = 98)).filterMap fun i => l[i]?
theorem givenN_succ {l : List TermT} {s : ByteArray} {j : Nat} {x : TermT} (hx : l[j]? = some x) : givenN l s (j + 1) = givenN l s j ++ if ((byteAt s j).toNat : Int) = 98 then [x] else [] := by
  unfold givenN
  rw [List.range_succ, List.filter_append, List.filterMap_append]
  by_cases h : ((byteAt s j).toNat : Int) = 98 <;> simp [h, hx]
def givenT (l : List TermT) (s : ByteArray) : List TermT := givenN l s (min l.length s.size)
theorem givenN_len (l : List TermT) (s : ByteArray) (j : Nat) : (givenN l s j).length ≤ j := by
  unfold givenN
  refine Nat.le_trans (List.length_filterMap_le _ _) (Nat.le_trans (List.length_filter_le _ _) (by simp))
theorem iteMin (a b : Nat) : (if a < b then (a : Int) else (b : Int)) = ((min b a : Nat) : Int) := by
  split <;> omega
theorem given_run (a : AtomT) (s : ByteArray) (ha : a.args.length ≤ 1000) (k : Nat) (hk : 1002 ≤ k) : val Tryz.prog cf k 8 [.agg a.c, .sc (.string s)] = some (mkL 4 (tRows (givenT a.args s))) := by
  obtain ⟨k, rfl⟩ : ∃ j, k = j + 1 := ⟨k - 1, by omega⟩
  refine val_acc (e := 35) (rows := tRows (givenT a.args s)) (v := accV 0 4 (tRows (givenT a.args s))) (H1 := accB 35 4 (tRows (givenT a.args s))) ?_ acc_out0 tRows_row tRows_stay
  rw [arun_body rfl rfl Tryz.func8 rfl (N := 33) rfl]
  have hw := wraps (n := a.args.length) (by omega)
  unfold givenT
  obtain ⟨m, hm⟩ : ∃ m, m = min a.args.length s.size := ⟨_, rfl⟩
  have h1 : m ≤ a.args.length := by omega
  simp only [R0, RC, zipEnv, Nat.reduceLT, Nat.reduceAdd, Nat.reduceEqDiff, Nat.reduceLeDiff, reduceCtorEq, ↓reduceIte, ares, aresult, pr, Int.reduceEq, Int.reduceLT, Int.reduceLE, Nat.reduceSub, Nat.reduceMul, aFieldAddr, aField, aLoad, aStore, aExtract, aBox, aint, rdVar, rdCells, Value.oneCell', splice, Int.reduceNeg, zvar1, chunks, depth, some_map, Nat.reduceBEq, cf_dyn, okU, Tryz.f8, rf8, AtomT.c, iteMin, ← hm, h1, ← List.map_take]
  have hl : (a.args.take m).length = m := by rw [List.length_take]; omega
  generalize hA : aloop _ _ _ _ _ _ _ _ _ _ _ = A
  rcases aloop_list hA [1, 5, 16, 17, 18] (fun j => ⟨[(1, .sc (.string s)), (5, accV 0 4 (tRows (givenN a.args s j))), (16, mkL 4 ((a.args.take m).map TermT.c)), (17, .sc (.int .i64 m)), (18, .sc (.int .i64 (j : Nat)))], accB 35 4 (tRows (givenN a.args s j))⟩) (a.args.take m) (fun _ => false) (by omega) rfl (by simp only [R0, RC, zipEnv, Nat.reduceLT, Nat.reduceAdd, Nat.reduceEqDiff, Nat.reduceLeDiff, reduceCtorEq, ↓reduceIte, ares, aresult, pr, Int.reduceEq, Int.reduceLT, Int.reduceLE, Nat.reduceSub, Nat.reduceMul, aFieldAddr, aField, aLoad, aStore, aExtract, aBox, aint, rdVar, rdCells, Value.oneCell', splice, Int.reduceNeg, zvar1, chunks, depth, some_map, Nat.reduceBEq, cf_dyn, okU, Tryz.f8, rf8, hl]; rfl) (fun j x hj hx hq => by
      rw [hl] at hj
      have hx' : a.args[j]? = some x := by rwa [List.getElem?_take_of_lt hj] at hx
      have hg := givenN_succ (s := s) hx'
      have hlen := givenN_len a.args s j
      have hjs : j < s.size := by omega
      by_cases hc : ((byteAt s j).toNat : Int) = 98
      · rw [if_pos hc] at hg
        have hb := acc1_0 (P := Tryz.prog) (rows := tRows (givenN a.args s j)) (r := x.c) ro24 tRows_row rfl rfl (by rw [List.length_map]; omega) (by rw [List.length_map]; unfold maxLen; omega)
        have e2 : tRows (givenN a.args s (j + 1)) = tRows (givenN a.args s j) ++ [x.c] := by rw [hg]; simp [tRows]
        rw [← e2] at hb
        simp only [TermT.c] at hb
        simp only [R0, RC, zipEnv, Nat.reduceLT, Nat.reduceAdd, Nat.reduceEqDiff, Nat.reduceLeDiff, reduceCtorEq, ↓reduceIte, ares, aresult, pr, Int.reduceEq, Int.reduceLT, Int.reduceLE, Nat.reduceSub, Nat.reduceMul, aFieldAddr, aField, aLoad, aStore, aExtract, aBox, aint, rdVar, rdCells, Value.oneCell', splice, Int.reduceNeg, zvar1, chunks, depth, some_map, Nat.reduceBEq, cf_dyn, okU, Tryz.f8, rf8, TermT.c, hj, hjs, hx, hw j (by omega), hc, hb]
      · rw [if_neg hc, List.append_nil] at hg
        simp only [R0, RC, zipEnv, Nat.reduceLT, Nat.reduceAdd, Nat.reduceEqDiff, Nat.reduceLeDiff, reduceCtorEq, ↓reduceIte, ares, aresult, pr, Int.reduceEq, Int.reduceLT, Int.reduceLE, Nat.reduceSub, Nat.reduceMul, aFieldAddr, aField, aLoad, aStore, aExtract, aBox, aint, rdVar, rdCells, Value.oneCell', splice, Int.reduceNeg, zvar1, chunks, depth, some_map, Nat.reduceBEq, cf_dyn, okU, Tryz.f8, rf8, TermT.c, hj, hjs, hx, hw j (by omega), hc, hg]) (fun j x hj hx hq => by cases hq) (by simp only [R0, RC, zipEnv, Nat.reduceLT, Nat.reduceAdd, Nat.reduceEqDiff, Nat.reduceLeDiff, reduceCtorEq, ↓reduceIte, ares, aresult, pr, Int.reduceEq, Int.reduceLT, Int.reduceLE, Nat.reduceSub, Nat.reduceMul, aFieldAddr, aField, aLoad, aStore, aExtract, aBox, aint, rdVar, rdCells, Value.oneCell', splice, Int.reduceNeg, zvar1, chunks, depth, some_map, Nat.reduceBEq, cf_dyn, okU, Tryz.f8, rf8, hl]) with ⟨h, e1⟩ | ⟨j, x, hj, hx, hq, h, e1⟩
  · rw [e1, hl]
    simp only [R0, RC, zipEnv, Nat.reduceLT, Nat.reduceAdd, Nat.reduceEqDiff, Nat.reduceLeDiff, reduceCtorEq, ↓reduceIte, ares, aresult, pr, Int.reduceEq, Int.reduceLT, Int.reduceLE, Nat.reduceSub, Nat.reduceMul, aFieldAddr, aField, aLoad, aStore, aExtract, aBox, aint, rdVar, rdCells, Value.oneCell', splice, Int.reduceNeg, zvar1, chunks, depth, some_map, Nat.reduceBEq, cf_dyn, okU, Tryz.f8, rf8]
  · cases hq
def askS (p : ByteArray) (d : D2) : ByteArray := p ++ d.2 ++ ⟨#[95]⟩ ++ d.1
theorem asked_run (p : ByteArray) (d : D2) (hp : p.size ≤ 1000000000000000000) (h1 : d.1.size ≤ 1000000000000000000) (h2 : d.2.size ≤ 1000000000000000000) (k : Nat) (hk : 1 ≤ k) : val Tryz.prog cf k 10 [.sc (.string p), .agg [.sc (.string d.1), .sc (.string d.2)]] = some (.sc (.string (askS p d))) := by
  obtain ⟨k, rfl⟩ : ∃ j, k = j + 1 := ⟨k - 1, by omega⟩
  refine val_of (r := .sc (.string (askS p d))) (H1 := []) ?_ rfl rfl
  rw [arun_body rfl rfl Tryz.func10 rfl (N := 13) rfl]
  have e0 : (⟨#[95]⟩ : ByteArray).size = 1 := rfl
  have e1 : p.size + d.2.size ≤ maxLen := by unfold maxLen; omega
  have e2 : (p ++ d.2).size + (⟨#[95]⟩ : ByteArray).size ≤ maxLen := by rw [ByteArray.size_append, e0]; unfold maxLen; omega
  have e3 : (p ++ d.2 ++ (⟨#[95]⟩ : ByteArray)).size + d.1.size ≤ maxLen := by rw [ByteArray.size_append, ByteArray.size_append, e0]; unfold maxLen; omega
  simp only [R0, RC, zipEnv, Nat.reduceLT, Nat.reduceAdd, Nat.reduceEqDiff, Nat.reduceLeDiff, reduceCtorEq, ↓reduceIte, ares, aresult, pr, Int.reduceEq, Int.reduceLT, Int.reduceLE, Nat.reduceSub, Nat.reduceMul, aFieldAddr, aField, aLoad, aStore, aExtract, aBox, aint, rdVar, rdCells, Value.oneCell', splice, Int.reduceNeg, zvar1, chunks, depth, some_map, Nat.reduceBEq, cf_dyn, okU, Tryz.f10, rf10, aBin_addS e1, aBin_addS e2, aBin_addS e3]
  rfl
def isS : ByteArray := ⟨#[105, 115, 95]⟩
def foundS (p : ByteArray) (d : D2) : ByteArray := askS (p ++ isS) d
theorem found_run (p : ByteArray) (d : D2) (hp : p.size ≤ 100000000000000000) (h1 : d.1.size ≤ 1000000000000000000) (h2 : d.2.size ≤ 1000000000000000000) (k : Nat) (hk : 2 ≤ k) : val Tryz.prog cf k 12 [.sc (.string p), .agg [.sc (.string d.1), .sc (.string d.2)]] = some (.sc (.string (foundS p d))) := by
  obtain ⟨k, rfl⟩ : ∃ j, k = j + 1 := ⟨k - 1, by omega⟩
  refine val_of (r := .sc (.string (foundS p d))) (H1 := []) ?_ rfl rfl
  rw [arun_body rfl rfl Tryz.func12 rfl (N := 9) rfl]
  have e0 : (⟨#[105, 115, 95]⟩ : ByteArray).size = 3 := rfl
  have e1 : p.size + (⟨#[105, 115, 95]⟩ : ByteArray).size ≤ maxLen := by rw [e0]; unfold maxLen; omega
  have h := asked_run (p ++ ⟨#[105, 115, 95]⟩) d (by rw [ByteArray.size_append, e0]; omega) h1 h2 k (by omega)
  simp only [R0, RC, zipEnv, Nat.reduceLT, Nat.reduceAdd, Nat.reduceEqDiff, Nat.reduceLeDiff, reduceCtorEq, ↓reduceIte, ares, aresult, pr, Int.reduceEq, Int.reduceLT, Int.reduceLE, Nat.reduceSub, Nat.reduceMul, aFieldAddr, aField, aLoad, aStore, aExtract, aBox, aint, rdVar, rdCells, Value.oneCell', splice, Int.reduceNeg, zvar1, chunks, depth, some_map, Nat.reduceBEq, cf_dyn, okU, Tryz.f12, rf12, aBin_addS e1, h]
  rfl
theorem bytes_ext {a b : ByteArray} (h : a.data.toList = b.data.toList) : a = b := by
  obtain ⟨⟨x⟩⟩ := a
  obtain ⟨⟨y⟩⟩ := b
  simp only at h
  rw [h]
end Go.Proofs.YtpgipdajinkdgaaGreatA
