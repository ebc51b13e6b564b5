/- slices.Grow, slices.Concat at terms; safe.terms, safe.names, Vars, Binds. -/
import Derived.Test.YtpgipdajinkdgaaGreatN16
import Derived.Test.YtpgipdajinkdgaaGreatMN
namespace Go.Proofs.YtpgipdajinkdgaaGreatA
open Go Go.RowKit
set_option linter.all false
set_option linter.unusedSectionVars false
set_option linter.constructorNameAsVariable false
set_option linter.unusedVariables false
set_option linter.unusedSimpArgs false
section
variable {P : Program} {H : List Blk} {ρ : Operand → AV} {d : Option Tmp} {t u ty : TypeId} {pos : String} {af : Array Edge} {g : Option (Nat × Bool)} {x h : Operand}
theorem slice_nil0 (hk : pureRun P (Instr.sliceAt t (.slice none 0 0) none (some (.int .i64 0)) none) = some (.slice none 0 0)) (hx : ρ x = .sc (.slice none 0 0)) (hh : ρ h = .sc (.int .i64 0)) : aSliceG P H ρ ⟨d, .slice t x none (some h) none, ty, pos, af, g⟩ t (.sc (.slice none 0 0)) none (some (.sc (.int .i64 0))) = some (.val (.sc (.slice none 0 0))) := by
  have hs : sop P ρ ⟨d, .slice t x none (some h) none, ty, pos, af, g⟩ = some (.sc (.slice none 0 0)) := by
    rw [sop_v (s := Instr.sliceAt t (.slice none 0 0) none (some (.int .i64 0)) none) (by simp [Op.operands, hx, hh, toV]) rfl (by simp [execOp, hx, hh, toV])]
    simp [pOut, hk, ofV]
  have e1 : aSliceG P H ρ ⟨d, .slice t x none (some h) none, ty, pos, af, g⟩ t (.sc (.slice none 0 0)) none (some (.sc (.int .i64 0))) = aop P H ρ ⟨d, .slice t x none (some h) none, ty, pos, af, g⟩ := rfl
  rw [e1]
  simp only [aop, hx, hs, Option.map_some]
def aCap (P : Program) (t : TypeId) (x : AV) : Option Res := match toV x with
  | some v => (pOut P (Builtin.cap_ #[t] t #[v])).map .val
  | none => none
theorem aop_cap : aop P H ρ ⟨d, .call ⟨.builtin .cap, #[x], #[t]⟩, ty, pos, af, g⟩ = aCap P t (ρ x) := by
  have hs : (sop P ρ ⟨d, .call ⟨.builtin .cap, #[x], #[t]⟩, ty, pos, af, g⟩).map Res.val = aCap P t (ρ x) := by
    unfold aCap
    cases h : toV (ρ x) with
    | none => rw [sop_no (by simp [Op.operands, Call.operands, h])]; rfl
    | some v => rw [sop_v (s := Builtin.cap_ #[t] t #[v]) (by simp [Op.operands, Call.operands, h]) rfl (by simp [execOp, resolve, invoke, builtin, h, Builtin.cap_])]
  rw [← hs]
  rfl
theorem aCap_nil {e : TypeId} (ht : P.underlying t = some (.slice e)) : aCap P t (.sc (.slice none 0 0)) = some (.val (.sc (.int .i64 0))) := by
  simp [aCap, toV, pOut, Builtin.cap_, pureRun_bind, pureRun_under ht, pureRun_pure, ofV, goInt]
theorem a2_nil {e sz bytes n : Nat} {k q : IntKind} {zs : List AV} (h : zerosOk P t e sz zs = true) (hz : ((P.info? e).bind (·.zero)).map (fun zv => zv.cells.toList.map AV.sc) = some zs) (hb : (P.info? e).map (·.bytes) = some bytes) (hu : P.underlying u = some (.int k)) : aappend2 P H t u (.sc (.slice none 0 0)) (.sc (.int q (n : Nat))) = if (decide (0 < n) && decide (n * bytes ≤ 140737488355328) && decide (n ≤ maxLen)) = true then some (.new (.own H.length 0 n sz 0) ⟨e, sz, 0, true, (List.replicate n zs).flatten, .cells⟩) else none := by
  unfold zerosOk at h
  split at h <;> try (cases h; done)
  rename_i e' i hu' hi
  split at h <;> try (cases h; done)
  rename_i zv hzv
  simp only [Bool.and_eq_true, beq_iff_eq, decide_eq_true_eq] at h
  obtain ⟨⟨⟨⟨⟨h1, h2⟩, h3⟩, h4⟩, h5⟩, h6⟩ := h
  cases Nat.eq_of_beq_eq_true h1
  rw [hi] at hz hb
  simp only [Option.bind_some, hzv, Option.map_some, Option.some.injEq] at hz hb
  subst h2 hb
  unfold aappend2
  rw [hu', hu]
  simp only [hi, hzv, aint, Int.toNat_natCast, hz]
  have : (decide (0 < i.size) && zv.cells.size == i.size && zv.cells.toList.all Value.oneCell' && decide (0 < (n : Int)) && decide (n * i.bytes ≤ 140737488355328) && decide (n ≤ maxLen)) = (decide (0 < n) && decide (n * i.bytes ≤ 140737488355328) && decide (n ≤ maxLen)) := by
    have e0 : decide (0 < (n : Int)) = decide (0 < n) := by rw [Bool.eq_iff_iff]; simp
    simp only [h3, h4, h5, e0, beq_self_eq_true, decide_true, Bool.and_self, Bool.true_and]
  rw [this]
end
theorem bnd0 {q : IntKind} {a b : Nat} : bnd (some (.sc (.int q 0))) a b = some 0 := by simp [bnd, aint]
theorem slk : pureRun Tryz.prog (Instr.sliceAt 24 (.slice none 0 0) none (some (.int .i64 0)) none) = some (.slice none 0 0) := by kernel_rfl
theorem lenNil {H : List Blk} {t e : TypeId} (ht : Tryz.prog.underlying t = some (.slice e)) : aLen Tryz.prog H t (.sc (.slice none 0 0)) = some (.val (.sc (.int .i64 0))) := by
  simp only [aLen, alen, ht, toV]
  simp [pOut, Builtin.len_, pureRun_bind, pureRun_under ht, pureRun_pure, ofV, goInt]
def zT : List AV := [.sc (.string .empty), .sc (.int .i64 0), .sc (.int .i64 0), .sc (.string .empty)]
theorem grow_run (n : Nat) (h0 : 0 < n) (hn : n ≤ 1000000) (k : Nat) (H : List Blk) : arun Tryz.prog cf (k + 1) 139 [.sc (.slice none 0 0), .sc (.int .i64 (n : Nat))] H = some (.own H.length 0 0 4 0, H ++ [⟨35, 4, 0, true, (List.replicate n zT).flatten, .cells⟩]) := by
  have c1 : ((n : Int) < 0) = False := by simp
  have e1 : IntKind.i64.wrap (0 - 0) = 0 := rfl
  have e2 : IntKind.i64.wrap ((n : Int) - 0) = n := by rw [Int.sub_zero]; exact wrap_nat (by omega)
  have c2 : ((0 : Int) < (n : Int)) = True := by simp; omega
  have cap0 := aCap_nil (P := Tryz.prog) Tryz.underlying24
  have len0 := fun H => lenNil (H := H) Tryz.underlying24
  have ha := fun H => a2_nil (P := Tryz.prog) (H := H) (t := 24) (u := 3) (e := 35) (sz := 4) (bytes := 48) (n := n) (q := .i64) (zs := zT) (by kernel_rfl) (by kernel_rfl) (by kernel_rfl) Tryz.underlying3
  have b1 : n * 48 ≤ 140737488355328 := by omega
  have b2 : n ≤ maxLen := by unfold maxLen; omega
  have hget : (H ++ [⟨35, 4, 0, true, (List.replicate n zT).flatten, .cells⟩])[H.length]? = some ⟨35, 4, 0, true, (List.replicate n zT).flatten, .cells⟩ := by simp
  rw [arun_body rfl rfl Tryz.func139 rfl (N := 27) rfl]
  simp only [R0, RC, zipEnv, Nat.reduceLT, Nat.reduceAdd, Nat.reduceEqDiff, Nat.reduceLeDiff, reduceCtorEq, ↓reduceIte, ares, aresult, pr, Int.reduceEq, Int.reduceLT, Int.reduceLE, Nat.reduceSub, Nat.reduceMul, aFieldAddr, aField, aLoad, aStore, aExtract, aBox, aint, rdVar, rdCells, Value.oneCell', splice, Int.reduceNeg, zvar1, chunks, depth, some_map, Nat.reduceBEq, cf_dyn, okU, Tryz.f139, rf139, c1, aop_cap, cap0, len0, e1, e2, c2, slice_nil0 slk, ha, h0, b1, b2, bnd0, hget, Nat.sub_self]
theorem app_o0j {P : Program} {H : List Blk} {t e : TypeId} {sz bytes b ver n s : Nat} {cells : List AV} (ht : rowOk P t e sz bytes = true) (hk : H[b]? = some ⟨e, sz, ver, true, cells, .cells⟩) (hc : n * sz ≤ cells.length) (hb : n * bytes ≤ 140737488355328) (hx : n ≤ maxLen) :
    aappend P H t (.own b 0 n sz ver) (mkL s []) = some (.val (.own b 0 n sz ver)) := by
  obtain ⟨i, zv, hu, hi, hz, rfl, rfl, hpos, hzs, _, _⟩ := rowOk_at ht
  have hcond : (decide (0 < i.size) && zv.cells.size == i.size) = true := by simp [hpos, hzs]
  have he : elems H (mkL s []) i.size = some ([], 0) := by
    simp only [mkL, elems]
    split <;> simp
  simp only [aappend, hu, hi, hz, hcond, if_true, he, List.all_nil]
  rw [blkAt_some' hk rfl rfl]
  simp only [hc, decide_true, beq_self_eq_true, Bool.and_true, Bool.true_and]
  rw [if_pos (by simp; omega)]
theorem app_terms (H : List Blk) (R l : List TermT) (junk : List AV) (ver : Nat) (hR : R.length ≤ 100000) (hl : l.length ≤ 100000) (h0 : H[0]? = some ⟨35, 4, ver, true, (tRows R).flatten ++ junk, .cells⟩) : ∃ ver' junk' H', outH H (aappend Tryz.prog H 24 (.own 0 0 R.length 4 ver) (mkL 4 (tRows l))) = some (.own 0 0 (R ++ l).length 4 ver', H') ∧ H'[0]? = some ⟨35, 4, ver', true, (tRows (R ++ l)).flatten ++ junk', .cells⟩ := by
  have hRl : (tRows R).length = R.length := by simp
  by_cases hn : l = []
  · subst hn
    have := app_o0j (P := Tryz.prog) (H := H) (n := R.length) (s := 4) ro24 h0 (by rw [List.length_append, flat_len2 tRows_row, hRl]; omega) (by omega) (by unfold maxLen; omega)
    refine ⟨ver, junk, H, ?_, by rw [List.append_nil]; exact h0⟩
    rw [show mkL 4 (tRows []) = mkL 4 [] from rfl, this, List.append_nil]
    rfl
  · have h0l : 0 < H.length := (List.getElem?_eq_some_iff.1 h0).1
    have := app_oj (P := Tryz.prog) (H := H) (more := tRows l) ro24 h0 tRows_row (by simpa using hn) (fun r hr => by
      obtain ⟨s, _, rfl⟩ := List.mem_map.1 hr
      rfl) (by simp; omega) (by simp [maxLen]; omega)
    rw [hRl, List.length_map] at this
    refine ⟨ver + 1, [], H.set 0 ⟨35, 4, ver + 1, true, (tRows R).flatten ++ (tRows l).flatten, .cells⟩, ?_, ?_⟩
    · rw [this, List.length_append]
      rfl
    · have hfl : (tRows R).flatten ++ (tRows l).flatten = (tRows (R ++ l)).flatten := by simp [tRows]
      rw [List.getElem?_set_self h0l, List.append_nil, hfl]
theorem concat_run (x y : List TermT) (hx : x.length ≤ 1000) (hy : y.length ≤ 1000) (hy0 : 0 < y.length) (k : Nat) (hk : 1010 ≤ k) : val Tryz.prog cf k 117 [mkL 1 [[mkL 4 (tRows x)], [mkL 4 (tRows y)]]] = some (mkL 4 (tRows (x ++ y))) := by
  obtain ⟨k, rfl⟩ : ∃ j, k = j + 1 := ⟨k - 1, by omega⟩
  have hg := grow_run (x.length + y.length) (by omega) (by omega) (k - 1) []
  rw [show k - 1 + 1 = k by omega] at hg
  simp only [List.nil_append, List.length_nil] at hg
  have key : ∃ ver junk H', arun Tryz.prog cf (k + 1) 117 [mkL 1 [[mkL 4 (tRows x)], [mkL 4 (tRows y)]]] [] = some (.own 0 0 (x ++ y).length 4 ver, H') ∧ H'[0]? = some ⟨35, 4, ver, true, (tRows (x ++ y)).flatten ++ junk, .cells⟩ := by
    rw [arun_body rfl rfl Tryz.func117 rfl (N := 36) rfl]
    obtain ⟨L, hL⟩ : ∃ L, L = [x, y] := ⟨_, rfl⟩
    have hLl : L.length = 2 := by rw [hL]; rfl
    have hmk : mkL 1 [[mkL 4 (tRows x)], [mkL 4 (tRows y)]] = mkL 1 (L.map fun l => [mkL 4 (tRows l)]) := by rw [hL]; rfl
    rw [hmk]
    have hw := wraps (n := L.length) (by omega)
    have hLm : ∀ l ∈ L, l.length ≤ 1000 := by
      intro l hl
      rw [hL] at hl
      simp only [List.mem_cons, List.not_mem_nil, or_false] at hl
      rcases hl with rfl | rfl <;> assumption
    have hsum : ∀ j, j ≤ 2 → (L.take j).flatten.length ≤ 2000 := by
      intro j hj
      rw [hL]
      match j, hj with
      | 0, _ => simp
      | 1, _ => simp; omega
      | 2, _ => simp; omega
    have hfl : L.flatten = x ++ y := by rw [hL]; simp
    simp only [R0, RC, zipEnv, Nat.reduceLT, Nat.reduceAdd, Nat.reduceEqDiff, Nat.reduceLeDiff, reduceCtorEq, ↓reduceIte, ares, aresult, pr, Int.reduceEq, Int.reduceLT, Int.reduceLE, Nat.reduceSub, Nat.reduceMul, aFieldAddr, aField, aLoad, aStore, aExtract, aBox, aint, rdVar, rdCells, Value.oneCell', splice, Int.reduceNeg, zvar1, chunks, depth, some_map, Nat.reduceBEq, cf_dyn, okU, Tryz.f117, rf117]
    generalize hA : aloop _ _ _ _ _ _ _ _ _ _ _ = A
    have hnext : ∀ j (hj : j < L.length), (L.take (j + 1)).flatten = (L.take j).flatten ++ L[j] := fun j hj => by
      rw [List.take_succ_eq_append_getElem hj, List.flatten_append]
      simp
    have e1 := aloop_eqR hA [0, 3, 9, 10, 11] (fun j => ⟨[(0, mkL 1 (L.map fun l => [mkL 4 (tRows l)])), (3, .sc (.int .i64 ((L.take j).flatten.length : Nat))), (9, mkL 1 (L.map fun l => [mkL 4 (tRows l)])), (10, .sc (.int .i64 L.length)), (11, .sc (.int .i64 (j : Nat)))], []⟩) L.length (by omega) rfl (by simp only [R0, RC, zipEnv, Nat.reduceLT, Nat.reduceAdd, Nat.reduceEqDiff, Nat.reduceLeDiff, reduceCtorEq, ↓reduceIte, ares, aresult, pr, Int.reduceEq, Int.reduceLT, Int.reduceLE, Nat.reduceSub, Nat.reduceMul, aFieldAddr, aField, aLoad, aStore, aExtract, aBox, aint, rdVar, rdCells, Value.oneCell', splice, Int.reduceNeg, zvar1, chunks, depth, some_map, Nat.reduceBEq, cf_dyn, okU, Tryz.f117, rf117]; rfl) (fun j hj => by
        obtain ⟨l, hl⟩ : ∃ l, l = L[j] := ⟨_, rfl⟩
        have xj : L[j]? = some l := by rw [hl]; exact List.getElem?_eq_getElem hj
        have h1 := hsum j (by omega)
        have h2 := hLm l (by rw [hl]; exact List.getElem_mem hj)
        have w1 : IntKind.i64.wrap (((L.take j).flatten.length : Int) + (l.length : Int)) = (((L.take (j + 1)).flatten.length : Nat) : Int) := by
          rw [← Int.natCast_add, wrap_nat (by omega), hnext j hj, List.length_append, ← hl]
        have c1 : ((((L.take (j + 1)).flatten.length : Nat) : Int) < 0) = False := by simp
        simp only [R0, RC, zipEnv, Nat.reduceLT, Nat.reduceAdd, Nat.reduceEqDiff, Nat.reduceLeDiff, reduceCtorEq, ↓reduceIte, ares, aresult, pr, Int.reduceEq, Int.reduceLT, Int.reduceLE, Nat.reduceSub, Nat.reduceMul, aFieldAddr, aField, aLoad, aStore, aExtract, aBox, aint, rdVar, rdCells, Value.oneCell', splice, Int.reduceNeg, zvar1, chunks, depth, some_map, Nat.reduceBEq, cf_dyn, okU, Tryz.f117, rf117, hj, xj, hw j hj, w1, c1]) (by simp only [R0, RC, zipEnv, Nat.reduceLT, Nat.reduceAdd, Nat.reduceEqDiff, Nat.reduceLeDiff, reduceCtorEq, ↓reduceIte, ares, aresult, pr, Int.reduceEq, Int.reduceLT, Int.reduceLE, Nat.reduceSub, Nat.reduceMul, aFieldAddr, aField, aLoad, aStore, aExtract, aBox, aint, rdVar, rdCells, Value.oneCell', splice, Int.reduceNeg, zvar1, chunks, depth, some_map, Nat.reduceBEq, cf_dyn, okU, Tryz.f117, rf117]; rfl) rfl
    rw [e1, List.take_length, hfl, List.length_append]
    clear e1 hA A
    simp only [R0, RC, zipEnv, Nat.reduceLT, Nat.reduceAdd, Nat.reduceEqDiff, Nat.reduceLeDiff, reduceCtorEq, ↓reduceIte, ares, aresult, pr, Int.reduceEq, Int.reduceLT, Int.reduceLE, Nat.reduceSub, Nat.reduceMul, aFieldAddr, aField, aLoad, aStore, aExtract, aBox, aint, rdVar, rdCells, Value.oneCell', splice, Int.reduceNeg, zvar1, chunks, depth, some_map, Nat.reduceBEq, cf_dyn, okU, Tryz.f117, rf117, hg]
    generalize hA : aloop _ _ _ _ _ _ _ _ _ _ _ = A
    obtain ⟨s, ⟨ver, junk, H', rfl, h0⟩, e1⟩ := aloop_inv2 hA [6, 25, 26, 27] (fun j s => ∃ ver junk H', s = ⟨[(6, .own 0 0 (L.take j).flatten.length 4 ver), (25, mkL 1 (L.map fun l => [mkL 4 (tRows l)])), (26, .sc (.int .i64 L.length)), (27, .sc (.int .i64 (j : Nat)))], H'⟩ ∧ H'[0]? = some ⟨35, 4, ver, true, (tRows (L.take j).flatten).flatten ++ junk, .cells⟩) L.length (by omega) rfl
      ⟨0, (List.replicate (x.length + y.length) zT).flatten, _, by simp only [R0, RC, zipEnv, Nat.reduceLT, Nat.reduceAdd, Nat.reduceEqDiff, Nat.reduceLeDiff, reduceCtorEq, ↓reduceIte, ares, aresult, pr, Int.reduceEq, Int.reduceLT, Int.reduceLE, Nat.reduceSub, Nat.reduceMul, aFieldAddr, aField, aLoad, aStore, aExtract, aBox, aint, rdVar, rdCells, Value.oneCell', splice, Int.reduceNeg, zvar1, chunks, depth, some_map, Nat.reduceBEq, cf_dyn, okU, Tryz.f117, rf117]; rfl, rfl⟩
      (fun j hj s ⟨ver, junk, H', hs, h0⟩ => by
        subst hs
        obtain ⟨l, hl⟩ : ∃ l, l = L[j] := ⟨_, rfl⟩
        have xj : L[j]? = some l := by rw [hl]; exact List.getElem?_eq_getElem hj
        have h1 := hsum j (by omega)
        have h2 := hLm l (by rw [hl]; exact List.getElem_mem hj)
        obtain ⟨ver', junk', H2, q1, q2⟩ := app_terms H' (L.take j).flatten l junk ver (by omega) (by omega) h0
        rw [hnext j hj, ← hl]
        exact ⟨_, by simp only [R0, RC, zipEnv, Nat.reduceLT, Nat.reduceAdd, Nat.reduceEqDiff, Nat.reduceLeDiff, reduceCtorEq, ↓reduceIte, ares, aresult, pr, Int.reduceEq, Int.reduceLT, Int.reduceLE, Nat.reduceSub, Nat.reduceMul, aFieldAddr, aField, aLoad, aStore, aExtract, aBox, aint, rdVar, rdCells, Value.oneCell', splice, Int.reduceNeg, zvar1, chunks, depth, some_map, Nat.reduceBEq, cf_dyn, okU, Tryz.f117, rf117, hj, xj, hw j hj, q1]; try rfl, ver', junk', H2, rfl, q2⟩)
      (fun s ⟨ver, junk, H', hs, h0⟩ => by
        subst hs
        simp only [R0, RC, zipEnv, Nat.reduceLT, Nat.reduceAdd, Nat.reduceEqDiff, Nat.reduceLeDiff, reduceCtorEq, ↓reduceIte, ares, aresult, pr, Int.reduceEq, Int.reduceLT, Int.reduceLE, Nat.reduceSub, Nat.reduceMul, aFieldAddr, aField, aLoad, aStore, aExtract, aBox, aint, rdVar, rdCells, Value.oneCell', splice, Int.reduceNeg, zvar1, chunks, depth, some_map, Nat.reduceBEq, cf_dyn, okU, Tryz.f117, rf117])
    rw [e1]
    rw [List.take_length, hfl] at h0 ⊢
    exact ⟨ver, junk, H', by simp only [R0, RC, zipEnv, Nat.reduceLT, Nat.reduceAdd, Nat.reduceEqDiff, Nat.reduceLeDiff, reduceCtorEq, ↓reduceIte, ares, aresult, pr, Int.reduceEq, Int.reduceLT, Int.reduceLE, Nat.reduceSub, Nat.reduceMul, aFieldAddr, aField, aLoad, aStore, aExtract, aBox, aint, rdVar, rdCells, Value.oneCell', splice, Int.reduceNeg, zvar1, chunks, depth, some_map, Nat.reduceBEq, cf_dyn, okU, Tryz.f117, rf117, List.length_append], h0⟩
  obtain ⟨ver, junk, H', e, h0⟩ := key
  have hne : (x ++ y).length ≠ 0 := by rw [List.length_append]; omega
  refine val_head e (.inr ⟨0, ver, 35, junk, by rw [List.length_map, List.length_append], h0⟩) tRows_row tRows_stay
end Go.Proofs.YtpgipdajinkdgaaGreatA

namespace Go.Proofs.YtpgipdajinkdgaaGreatA
open Go Go.RowKit
set_option linter.all false
set_option linter.unusedSectionVars false
set_option linter.constructorNameAsVariable false
set_option linter.unusedVariables false
set_option linter.unusedSimpArgs false
def termsT (l : LitT) : List TermT := l.a.args ++ [l.A, l.B, l.C]
theorem terms_run (l : LitT) (hl : l.a.args.length ≤ 1000) (k : Nat) (hk : 1020 ≤ k) : valD Tryz.prog cf k 94 [.agg l.c] = some (mkL 4 (tRows (termsT l))) := by
  obtain ⟨k, rfl⟩ : ∃ j, k = j + 1 := ⟨k - 1, by omega⟩
  have hc := concat_run l.a.args [l.A, l.B, l.C] hl (by simp) (by simp) k (by omega)
  have e : mkL 4 (tRows [l.A, l.B, l.C]) = mkL 4 [[.sc (.string l.A.v), .sc (.int .i64 l.A.k), .sc (.int .i64 l.A.n), .sc (.string l.A.s)], [.sc (.string l.B.v), .sc (.int .i64 l.B.k), .sc (.int .i64 l.B.n), .sc (.string l.B.s)], [.sc (.string l.C.v), .sc (.int .i64 l.C.k), .sc (.int .i64 l.C.n), .sc (.string l.C.s)]] := rfl
  rw [e] at hc
  refine valD_of (r := mkL 4 (tRows (termsT l))) (H1 := []) ?_ (by rw [show depth = 39 + 1 from rfl]; unfold mkL; split <;> rfl)
  rw [arun_body rfl rfl Tryz.func94 rfl (N := 15) rfl]
  simp only [R0, RC, zipEnv, Nat.reduceLT, Nat.reduceAdd, Nat.reduceEqDiff, Nat.reduceLeDiff, reduceCtorEq, ↓reduceIte, ares, aresult, pr, Int.reduceEq, Int.reduceLT, Int.reduceLE, Nat.reduceSub, Nat.reduceMul, aFieldAddr, aField, aLoad, aStore, aExtract, aBox, aint, rdVar, rdCells, Value.oneCell', splice, Int.reduceNeg, zvar1, chunks, depth, some_map, Nat.reduceBEq, cf_dyn, okU, Tryz.f94, rf94, LitT.c, hc]
  rfl
def OutZ (H : List Blk) (v : AV) (l : List ByteArray) : Prop := (l = [] ∧ (v = .z ∨ v = .sc (.slice none 0 0))) ∨ (l ≠ [] ∧ ∃ b ver, v = .own b 0 l.length 1 ver ∧ H[b]? = some ⟨9, 1, ver, true, (sRows l).flatten, .cells⟩)
theorem outz_app {H : List Blk} {v : AV} {l : List ByteArray} (h : OutZ H v l) (hl : l.length ≤ 1000000) (s : ByteArray) : ∃ v' H', outH H (aappend Tryz.prog H 36 v (mkL 1 [[.sc (.string s)]])) = some (v', H') ∧ OutZ H' v' (l ++ [s]) ∧ v' ≠ .z := by
  have hs : sRows (l ++ [s]) = sRows l ++ [[.sc (.string s)]] := by simp [sRows, sC]
  rcases h with ⟨rfl, rfl | rfl⟩ | ⟨hne, b, ver, rfl, hb⟩
  · have := app_z (P := Tryz.prog) (H := H) (t := 36) (more := [[.sc (.string s)]]) ro36 (by simp) (fun r hr => by rw [List.mem_singleton] at hr; subst hr; rfl) (by simp) (by simp [maxLen])
    refine ⟨_, _, by rw [this]; rfl, .inr ⟨by simp, H.length, 0, rfl, ?_⟩, ?_⟩
    · simp [sRows, sC]
    · simp
  · have := acc1 (P := Tryz.prog) (H := H) (rows := []) (r := [.sc (.string s)]) ro36 (fun _ h => by cases h) rfl rfl (by decide) (by decide)
    simp only [accV_nil, accB_nil, List.append_nil, List.nil_append] at this
    refine ⟨_, _, this, .inr ⟨by simp, H.length, 0, ?_, ?_⟩, ?_⟩
    · simp [accV]
    · simp [accB, sRows, sC]
    · simp [accV]
  · have hbl : b < H.length := (List.getElem?_eq_some_iff.1 hb).1
    have := app_o (P := Tryz.prog) (H := H) (b := b) (ver := ver) (rows := sRows l) (more := [[.sc (.string s)]]) ro36 hb sRows_row (by simp) (fun r hr => by rw [List.mem_singleton] at hr; subst hr; rfl) (by simp; omega) (by simp [maxLen]; omega)
    rw [show (sRows l).length = l.length by simp] at this
    refine ⟨_, _, by rw [this]; rfl, .inr ⟨by simp, b, ver + 1, by simp, ?_⟩, by simp⟩
    rw [List.getElem?_set_self hbl, hs, List.flatten_append]
theorem outz_sort {H : List Blk} {v : AV} {l : List ByteArray} (h : OutZ H v l) (hl : l.length < 4611686018427387904) : ∃ H1 v' H', sortPrim [v] H = some (.tup [], H1) ∧ compactPrim [v] H1 = some (v', H') ∧ rb H' depth v' = some (mkL 1 (sRows (Ord.sorted l))) ∧ (v ≠ .z → freshR H' v' = true) := by
  rcases h with ⟨rfl, rfl | rfl⟩ | ⟨hne, b, ver, rfl, hb⟩
  · exact ⟨H, .z, H, by simp only [sortPrim, ownStrs], by simp only [compactPrim, ownStrs], rfl, fun h => absurd rfl h⟩
  · exact ⟨H, .sc (.slice none 0 0), H, by simp only [sortPrim, ownStrs], by simp only [compactPrim, ownStrs], rfl, fun _ => rfl⟩
  · rw [sRows_flat] at hb
    have h1 := sortPrim_own hb hl
    have hbl : b < H.length := (List.getElem?_eq_some_iff.1 hb).1
    have hb2 : (H.set b ⟨9, 1, ver, true, (Ord.sortS l).map sstr, .cells⟩)[b]? = some ⟨9, 1, ver, true, (Ord.sortS l).map sstr, .cells⟩ := by rw [List.getElem?_set_self hbl]
    have h2 := compactPrim_own hb2 (by rw [Ord.sortS_len]; exact hl)
    rw [Ord.sortS_len, Ord.compS_sortS] at h2
    have hh : HeadAt 1 ((H.set b ⟨9, 1, ver, true, (Ord.sortS l).map sstr, .cells⟩).set b ⟨9, 1, ver, true, (Ord.sorted l).map sstr ++ (List.replicate (l.length - (Ord.sorted l).length) ⟨#[]⟩).map sstr, .cells⟩) (.own b 0 (Ord.sorted l).length 1 ver) (sRows (Ord.sorted l)) := .inr ⟨b, ver, 9, (List.replicate (l.length - (Ord.sorted l).length) ⟨#[]⟩).map sstr, by rw [List.length_map], by rw [List.getElem?_set_self (by rw [List.length_set]; exact hbl), sRows_flat]⟩
    exact ⟨_, _, _, h1, h2, rb_head (k := 38) hh sRows_row (fun r hr x hx => (sRows_stay r hr x hx).1), fun _ => fresh_head hh sRows_row (fun r hr x hx => (sRows_stay r hr x hx).2)⟩
def varsT (l : List TermT) : List ByteArray := (l.map (·.v)).filter fun s => !decide (s = .empty)
theorem varsT_snoc {l : List TermT} {j : Nat} {x : TermT} (hx : l[j]? = some x) : varsT (l.take (j + 1)) = varsT (l.take j) ++ (if x.v = .empty then [] else [x.v]) := by
  obtain ⟨hj, rfl⟩ := List.getElem?_eq_some_iff.1 hx
  unfold varsT
  rw [List.take_succ_eq_append_getElem hj, List.map_append, List.filter_append]
  congr 1
  by_cases h : l[j].v = .empty <;> simp [h]
theorem varsT_len (l : List TermT) : (varsT l).length ≤ l.length := by
  unfold varsT
  exact Nat.le_trans (List.length_filter_le _ _) (by simp)
theorem names_at (l : List TermT) (m : List ByteArray) (more v0 : AV) (H0 : List Blk) (k : Nat) (hk : 100010 ≤ k) (hl : l.length ≤ 10000) (hm : m.length ≤ 10000) (hc : arun Tryz.prog cf k 116 [more] [] = some (v0, H0)) (ho : OutZ H0 v0 m) :
    ∃ v H', arun Tryz.prog cf (k + 1) 93 [mkL 4 (tRows l), more] [] = some (v, H') ∧ rb H' depth v = some (mkL 1 (sRows (Ord.sorted (m ++ varsT l)))) ∧ (v0 ≠ .z → freshR H' v = true) := by
  rw [arun_body rfl rfl Tryz.func93 rfl (N := 29) rfl]
  have hw := wraps (n := l.length) (by omega)
  simp only [R0, RC, zipEnv, Nat.reduceLT, Nat.reduceAdd, Nat.reduceEqDiff, Nat.reduceLeDiff, reduceCtorEq, ↓reduceIte, ares, aresult, pr, Int.reduceEq, Int.reduceLT, Int.reduceLE, Nat.reduceSub, Nat.reduceMul, aFieldAddr, aField, aLoad, aStore, aExtract, aBox, aint, rdVar, rdCells, Value.oneCell', splice, Int.reduceNeg, zvar1, chunks, depth, some_map, Nat.reduceBEq, cf_dyn, okU, Tryz.f93, rf93, hc]
  generalize hA : aloop _ _ _ _ _ _ _ _ _ _ _ = A
  obtain ⟨s, ⟨v, H', rfl, hz, hvz⟩, e1⟩ := aloop_inv2 hA [5, 10, 11, 12] (fun j s => ∃ v H', s = ⟨[(5, v), (10, mkL 4 (tRows l)), (11, .sc (.int .i64 l.length)), (12, .sc (.int .i64 (j : Nat)))], H'⟩ ∧ OutZ H' v (m ++ varsT (l.take j)) ∧ (v0 ≠ .z → v ≠ .z)) l.length (by omega) rfl
    ⟨v0, H0, by simp only [R0, RC, zipEnv, Nat.reduceLT, Nat.reduceAdd, Nat.reduceEqDiff, Nat.reduceLeDiff, reduceCtorEq, ↓reduceIte, ares, aresult, pr, Int.reduceEq, Int.reduceLT, Int.reduceLE, Nat.reduceSub, Nat.reduceMul, aFieldAddr, aField, aLoad, aStore, aExtract, aBox, aint, rdVar, rdCells, Value.oneCell', splice, Int.reduceNeg, zvar1, chunks, depth, some_map, Nat.reduceBEq, cf_dyn, okU, Tryz.f93, rf93]; rfl, by simpa [varsT] using ho, fun h => h⟩
    (fun j hj s ⟨v, H', hs, hz, hvz⟩ => by
      subst hs
      obtain ⟨x, hx⟩ : ∃ x, x = l[j] := ⟨_, rfl⟩
      have xj : l[j]? = some x := by rw [hx]; exact List.getElem?_eq_getElem hj
      have hsn := varsT_snoc xj
      have hvl := varsT_len (l.take j)
      rw [List.length_take] at hvl
      by_cases h0 : x.v = .empty
      · rw [if_pos h0, List.append_nil] at hsn
        rw [hsn]
        exact ⟨_, by simp only [R0, RC, zipEnv, Nat.reduceLT, Nat.reduceAdd, Nat.reduceEqDiff, Nat.reduceLeDiff, reduceCtorEq, ↓reduceIte, ares, aresult, pr, Int.reduceEq, Int.reduceLT, Int.reduceLE, Nat.reduceSub, Nat.reduceMul, aFieldAddr, aField, aLoad, aStore, aExtract, aBox, aint, rdVar, rdCells, Value.oneCell', splice, Int.reduceNeg, zvar1, chunks, depth, some_map, Nat.reduceBEq, cf_dyn, okU, Tryz.f93, rf93, TermT.c, hj, xj, hw j hj, h0]; try rfl, v, H', rfl, hz, hvz⟩
      · rw [if_neg h0] at hsn
        obtain ⟨v', H2, q1, q2, q3⟩ := outz_app hz (by rw [List.length_append]; omega) x.v
        rw [hsn, ← List.append_assoc]
        exact ⟨_, by simp only [R0, RC, zipEnv, Nat.reduceLT, Nat.reduceAdd, Nat.reduceEqDiff, Nat.reduceLeDiff, reduceCtorEq, ↓reduceIte, ares, aresult, pr, Int.reduceEq, Int.reduceLT, Int.reduceLE, Nat.reduceSub, Nat.reduceMul, aFieldAddr, aField, aLoad, aStore, aExtract, aBox, aint, rdVar, rdCells, Value.oneCell', splice, Int.reduceNeg, zvar1, chunks, depth, some_map, Nat.reduceBEq, cf_dyn, okU, Tryz.f93, rf93, TermT.c, hj, xj, hw j hj, h0, q1]; try rfl, v', H2, rfl, q2, fun _ => q3⟩)
    (fun s ⟨v, H', hs, hz, hvz⟩ => by
      subst hs
      simp only [R0, RC, zipEnv, Nat.reduceLT, Nat.reduceAdd, Nat.reduceEqDiff, Nat.reduceLeDiff, reduceCtorEq, ↓reduceIte, ares, aresult, pr, Int.reduceEq, Int.reduceLT, Int.reduceLE, Nat.reduceSub, Nat.reduceMul, aFieldAddr, aField, aLoad, aStore, aExtract, aBox, aint, rdVar, rdCells, Value.oneCell', splice, Int.reduceNeg, zvar1, chunks, depth, some_map, Nat.reduceBEq, cf_dyn, okU, Tryz.f93, rf93])
  rw [e1]
  rw [List.take_length] at hz
  have hvl := varsT_len l
  obtain ⟨H1, v', H2, q1, q2, q3, q4⟩ := outz_sort hz (by rw [List.length_append]; omega)
  have p1 : ∀ args H, arun Tryz.prog cf k 98 args H = sortPrim args H := fun args H => by
    obtain ⟨k', rfl⟩ : ∃ j, k = j + 1 := ⟨k - 1, by omega⟩
    exact pm98
  have p2 : ∀ args H, arun Tryz.prog cf k 99 args H = compactPrim args H := fun args H => by
    obtain ⟨k', rfl⟩ : ∃ j, k = j + 1 := ⟨k - 1, by omega⟩
    exact pm99
  exact ⟨v', H2, by simp only [R0, RC, zipEnv, Nat.reduceLT, Nat.reduceAdd, Nat.reduceEqDiff, Nat.reduceLeDiff, reduceCtorEq, ↓reduceIte, ares, aresult, pr, Int.reduceEq, Int.reduceLT, Int.reduceLE, Nat.reduceSub, Nat.reduceMul, aFieldAddr, aField, aLoad, aStore, aExtract, aBox, aint, rdVar, rdCells, Value.oneCell', splice, Int.reduceNeg, zvar1, chunks, depth, some_map, Nat.reduceBEq, cf_dyn, okU, Tryz.f93, rf93, p1, p2, q1, q2], q3, fun h => q4 (hvz h)⟩
end Go.Proofs.YtpgipdajinkdgaaGreatA

namespace Go.Proofs.YtpgipdajinkdgaaGreatA
open Go Go.RowKit
set_option linter.all false
set_option linter.unusedSectionVars false
set_option linter.constructorNameAsVariable false
set_option linter.unusedVariables false
set_option linter.unusedSimpArgs false
theorem aBin_lstnil {P : Program} {H : List Blk} {t e : TypeId} {p q : Operand} {sz : Nat} {x : AV} {xs : List AV} {rest : List (List AV)} (h : P.underlying t = some (.slice e)) : aBin P H .eql t p q (.lst sz ((x :: xs) :: rest)) (.sc (.slice none 0 0)) = some (.val (.sc (.bool false))) := by
  unfold aBin
  have : nilTest P H .eql t (.lst sz ((x :: xs) :: rest)) (.sc (.slice none 0 0)) = some false := by
    simp [nilTest, some_, nilKind, kindOf, h]
  rw [this]
theorem clone_run (m : List ByteArray) (hm : m.length ≤ 10000) (k : Nat) : ∃ v0 H0, arun Tryz.prog cf (k + 1) 116 [mkL 1 (sRows m)] [] = some (v0, H0) ∧ OutZ H0 v0 m := by
  have hp : ∀ args H, arun Tryz.prog cf (k + 1) 116 args H = clonePrim Tryz.prog cf0 116 args H := fun _ _ => rfl
  cases m with
  | nil => exact ⟨.z, [], by rw [hp]; rfl, .inl ⟨rfl, .inl rfl⟩⟩
  | cons s m =>
    have e : mkL 1 (sRows (s :: m)) = .lst 1 ([.sc (.string s)] :: sRows m) := rfl
    have ha := fun H => app_z (P := Tryz.prog) (H := H) (t := 36) (more := sRows (s :: m)) ro36 (by simp) (fun r hr => by
      obtain ⟨s, _, rfl⟩ := List.mem_map.1 hr
      rfl) (by simp; simp at hm; omega) (by simp [maxLen]; simp at hm; omega)
    have e1 : clonePrim Tryz.prog cf0 116 [mkL 1 (sRows (s :: m))] [] = arun Tryz.prog cf0 5 116 [mkL 1 (sRows (s :: m))] [] := rfl
    rw [hp, e1]
    have key : ∃ b H0, arun Tryz.prog cf0 5 116 [mkL 1 (sRows (s :: m))] [] = some (.own b 0 (sRows (s :: m)).length 1 0, H0) ∧ H0[b]? = some ⟨9, 1, 0, true, (sRows (s :: m)).flatten, .cells⟩ := by
      rw [e] at ha ⊢
      rw [arun_body (k := 4) rfl rfl Tryz.func116 rfl (N := 8) rfl]
      refine ⟨_, _, by simp only [fz0_116, R0, RC, zipEnv, Nat.reduceLT, Nat.reduceAdd, Nat.reduceEqDiff, Nat.reduceLeDiff, reduceCtorEq, ↓reduceIte, ares, aresult, pr, Int.reduceEq, Int.reduceLT, Int.reduceLE, Nat.reduceSub, Nat.reduceMul, aFieldAddr, aField, aLoad, aStore, aExtract, aBox, aint, rdVar, rdCells, Value.oneCell', splice, Int.reduceNeg, zvar1, chunks, depth, some_map, Nat.reduceBEq, cf_dyn, okU, Tryz.f116, rf116, aBin_lstnil Tryz.underlying36, ha]; rfl, ?_⟩
      rfl
    obtain ⟨b, H0, e2, h2⟩ := key
    exact ⟨_, _, e2, .inr ⟨by simp, b, 0, by simp, h2⟩⟩
theorem clone_nil (k : Nat) : arun Tryz.prog cf (k + 1) 116 [.sc (.slice none 0 0)] [] = some (.sc (.slice none 0 0), []) := by
  have hp : ∀ args H, arun Tryz.prog cf (k + 1) 116 args H = clonePrim Tryz.prog cf0 116 args H := fun _ _ => rfl
  have e1 : clonePrim Tryz.prog cf0 116 [.sc (.slice none 0 0)] [] = arun Tryz.prog cf0 5 116 [.sc (.slice none 0 0)] [] := rfl
  rw [hp, e1]
  rw [arun_body (k := 4) rfl rfl Tryz.func116 rfl (N := 8) rfl]
  simp only [fz0_116, R0, RC, zipEnv, Nat.reduceLT, Nat.reduceAdd, Nat.reduceEqDiff, Nat.reduceLeDiff, reduceCtorEq, ↓reduceIte, ares, aresult, pr, Int.reduceEq, Int.reduceLT, Int.reduceLE, Nat.reduceSub, Nat.reduceMul, aFieldAddr, aField, aLoad, aStore, aExtract, aBox, aint, rdVar, rdCells, Value.oneCell', splice, Int.reduceNeg, zvar1, chunks, depth, some_map, Nat.reduceBEq, cf_dyn, okU, Tryz.f116, rf116, aBin_slnil Tryz.underlying36, Option.isNone_none]
def bindsT (l : LitT) (m : List ByteArray) : List ByteArray := Ord.sorted (m ++ varsT (termsT l))
theorem bindsT_len (l : LitT) (m : List ByteArray) : (bindsT l m).length ≤ m.length + l.a.args.length + 3 := by
  refine Nat.le_trans (Ord.nsort_len_le _) ?_
  have := varsT_len (termsT l)
  unfold termsT at this
  simp only [List.length_append, List.length_cons, List.length_nil] at this
  simp only [List.length_append]
  unfold termsT
  omega
theorem binds_run (l : LitT) (m : List ByteArray) (hl : l.a.args.length ≤ 1000) (hm : m.length ≤ 10000) (k : Nat) (hk : 100020 ≤ k) : valD Tryz.prog cf k 55 [.agg l.c, mkL 1 (sRows m)] = some (mkL 1 (sRows (bindsT l m))) := by
  obtain ⟨k, rfl⟩ : ∃ j, k = j + 1 := ⟨k - 1, by omega⟩
  have ht := terms_run l hl k (by omega)
  obtain ⟨v0, H0, hc, ho⟩ := clone_run m hm (k - 3)
  rw [show k - 3 + 1 = k - 2 by omega] at hc
  have htl : (termsT l).length ≤ 10000 := by unfold termsT; simp; omega
  have hc' : arun Tryz.prog cf (k - 1) 116 [mkL 1 (sRows m)] [] = some (v0, H0) := by
    obtain ⟨j, hj⟩ : ∃ j, k = j + 3 := ⟨k - 3, by omega⟩
    subst hj
    exact hc
  obtain ⟨v, H', hn, hr, _⟩ := names_at (termsT l) m (mkL 1 (sRows m)) v0 H0 (k - 1) (by omega) htl hm hc' ho
  rw [show k - 1 + 1 = k by omega] at hn
  simp only [LitT.c] at ht
  refine valD_of (r := v) (H1 := H') ?_ hr
  rw [arun_body rfl rfl Tryz.func55 rfl (N := 9) rfl]
  simp only [R0, RC, zipEnv, Nat.reduceLT, Nat.reduceAdd, Nat.reduceEqDiff, Nat.reduceLeDiff, reduceCtorEq, ↓reduceIte, ares, aresult, pr, Int.reduceEq, Int.reduceLT, Int.reduceLE, Nat.reduceSub, Nat.reduceMul, aFieldAddr, aField, aLoad, aStore, aExtract, aBox, aint, rdVar, rdCells, Value.oneCell', splice, Int.reduceNeg, zvar1, chunks, depth, some_map, Nat.reduceBEq, cf_dyn, okU, Tryz.f55, rf55, LitT.c, ht, hn]
theorem vars_run (l : LitT) (hl : l.a.args.length ≤ 1000) (k : Nat) (hk : 100020 ≤ k) : val Tryz.prog cf k 61 [.agg l.c] = some (mkL 1 (sRows (bindsT l []))) := by
  obtain ⟨k, rfl⟩ : ∃ j, k = j + 1 := ⟨k - 1, by omega⟩
  have ht := terms_run l hl k (by omega)
  have hc' : arun Tryz.prog cf (k - 1) 116 [.sc (.slice none 0 0)] [] = some (.sc (.slice none 0 0), []) := by
    obtain ⟨j, hj⟩ : ∃ j, k = j + 3 := ⟨k - 3, by omega⟩
    subst hj
    exact clone_nil (j + 1)
  have htl : (termsT l).length ≤ 10000 := by unfold termsT; simp; omega
  obtain ⟨v, H', hn, hr, hf⟩ := names_at (termsT l) [] (.sc (.slice none 0 0)) (.sc (.slice none 0 0)) [] (k - 1) (by omega) htl (by simp) hc' (.inl ⟨rfl, .inr rfl⟩)
  rw [show k - 1 + 1 = k by omega] at hn
  simp only [LitT.c] at ht
  refine val_of (r := v) (H1 := H') ?_ (hf (by simp)) hr
  rw [arun_body rfl rfl Tryz.func61 rfl (N := 6) rfl]
  simp only [R0, RC, zipEnv, Nat.reduceLT, Nat.reduceAdd, Nat.reduceEqDiff, Nat.reduceLeDiff, reduceCtorEq, ↓reduceIte, ares, aresult, pr, Int.reduceEq, Int.reduceLT, Int.reduceLE, Nat.reduceSub, Nat.reduceMul, aFieldAddr, aField, aLoad, aStore, aExtract, aBox, aint, rdVar, rdCells, Value.oneCell', splice, Int.reduceNeg, zvar1, chunks, depth, some_map, Nat.reduceBEq, cf_dyn, okU, Tryz.f61, rf61, LitT.c, ht, hn]
def litG (g : List TermT) : LitT := ⟨1, ⟨.empty, g⟩, .empty, ⟨.empty, 0, 0, .empty⟩, ⟨.empty, 0, 0, .empty⟩, ⟨.empty, 0, 0, .empty⟩, []⟩
def givB (l : List TermT) (s : ByteArray) (j : Nat) : List TermT := ((List.range j).filter fun i => decide (i < s.size) && decide (((byteAt s i).toNat : Int) = 98)).filterMap fun i => l[i]?
theorem givB_succ {l : List TermT} {s : ByteArray} {j : Nat} {x : TermT} (hx : l[j]? = some x) : givB l s (j + 1) = givB l s j ++ if (decide (j < s.size) && decide (((byteAt s j).toNat : Int) = 98)) = true then [x] else [] := by
  unfold givB
  rw [List.range_succ, List.filter_append, List.filterMap_append]
  cases h : (decide (j < s.size) && decide (((byteAt s j).toNat : Int) = 98)) <;> simp [h, hx]
theorem givB_len (l : List TermT) (s : ByteArray) (j : Nat) : (givB l s j).length ≤ j := by
  unfold givB
  refine Nat.le_trans (List.length_filterMap_le _ _) (Nat.le_trans (List.length_filter_le _ _) (by simp))
def boundT (a : AtomT) (s : ByteArray) : List ByteArray := bindsT (litG (givB a.args s a.args.length)) []
theorem rb_acc {k : Nat} {rows : List TermT} : rb (accB 35 4 (tRows rows)) (k + 2) (accV 0 4 (tRows rows)) = some (mkL 4 (tRows rows)) := rb_out (e := 35) acc_out0 tRows_row (fun r hr x hx => (tRows_stay r hr x hx).1)
theorem bound_run (a : AtomT) (s : ByteArray) (ha : a.args.length ≤ 1000) (k : Nat) (hk : 100030 ≤ k) : valD Tryz.prog cf k 53 [.agg a.c, .sc (.string s)] = some (mkL 1 (sRows (boundT a s))) := by
  obtain ⟨k, rfl⟩ : ∃ j, k = j + 1 := ⟨k - 1, by omega⟩
  have hgl := givB_len a.args s a.args.length
  have hv := vars_run (litG (givB a.args s a.args.length)) (by unfold litG; simp only; omega) k (by omega)
  have key : ∃ H', arun Tryz.prog cf (k + 1) 53 [.agg a.c, .sc (.string s)] [] = some (mkL 1 (sRows (boundT a s)), H') := by
    rw [arun_body rfl rfl Tryz.func53 rfl (N := 37) rfl]
    have hw := wraps (n := a.args.length) (by omega)
    simp only [R0, RC, zipEnv, Nat.reduceLT, Nat.reduceAdd, Nat.reduceEqDiff, Nat.reduceLeDiff, reduceCtorEq, ↓reduceIte, ares, aresult, pr, Int.reduceEq, Int.reduceLT, Int.reduceLE, Nat.reduceSub, Nat.reduceMul, aFieldAddr, aField, aLoad, aStore, aExtract, aBox, aint, rdVar, rdCells, Value.oneCell', splice, Int.reduceNeg, zvar1, chunks, depth, some_map, Nat.reduceBEq, cf_dyn, okU, Tryz.f53, rf53, AtomT.c]
    generalize hA : aloop _ _ _ _ _ _ _ _ _ _ _ = A
    have e1 := aloop_eqR hA [1, 5, 9, 10, 11] (fun j => ⟨[(1, .sc (.string s)), (5, accV 0 4 (tRows (givB a.args s j))), (9, mkL 4 (a.args.map TermT.c)), (10, .sc (.int .i64 a.args.length)), (11, .sc (.int .i64 (j : Nat)))], accB 35 4 (tRows (givB a.args s j))⟩) a.args.length (by omega) rfl (by simp only [R0, RC, zipEnv, Nat.reduceLT, Nat.reduceAdd, Nat.reduceEqDiff, Nat.reduceLeDiff, reduceCtorEq, ↓reduceIte, ares, aresult, pr, Int.reduceEq, Int.reduceLT, Int.reduceLE, Nat.reduceSub, Nat.reduceMul, aFieldAddr, aField, aLoad, aStore, aExtract, aBox, aint, rdVar, rdCells, Value.oneCell', splice, Int.reduceNeg, zvar1, chunks, depth, some_map, Nat.reduceBEq, cf_dyn, okU, Tryz.f53, rf53]; rfl) (fun j hj => by
        obtain ⟨x, hx⟩ : ∃ x, x = a.args[j] := ⟨_, rfl⟩
        have xj : a.args[j]? = some x := by rw [hx]; exact List.getElem?_eq_getElem hj
        have hg := givB_succ (s := s) xj
        have hlen := givB_len a.args s j
        by_cases hjs : j < s.size
        · have hj1 : j + 1 ≤ s.size := by omega
          by_cases hc : ((byteAt s j).toNat : Int) = 98
          · rw [if_pos (by simp [hjs, hc])] at hg
            have hb := acc1_0 (P := Tryz.prog) (rows := tRows (givB a.args s j)) (r := x.c) ro24 tRows_row rfl rfl (by rw [List.length_map]; omega) (by rw [List.length_map]; unfold maxLen; omega)
            have e2 : tRows (givB a.args s (j + 1)) = tRows (givB a.args s j) ++ [x.c] := by rw [hg]; simp [tRows]
            rw [← e2] at hb
            simp only [TermT.c] at hb
            simp only [R0, RC, zipEnv, Nat.reduceLT, Nat.reduceAdd, Nat.reduceEqDiff, Nat.reduceLeDiff, reduceCtorEq, ↓reduceIte, ares, aresult, pr, Int.reduceEq, Int.reduceLT, Int.reduceLE, Nat.reduceSub, Nat.reduceMul, aFieldAddr, aField, aLoad, aStore, aExtract, aBox, aint, rdVar, rdCells, Value.oneCell', splice, Int.reduceNeg, zvar1, chunks, depth, some_map, Nat.reduceBEq, cf_dyn, okU, Tryz.f53, rf53, TermT.c, hj, hjs, hj1, xj, hw j hj, hc, aSliceS_at, le_succ', ex98 hjs, hb]
          · rw [if_neg (by simp [hc]), List.append_nil] at hg
            simp only [R0, RC, zipEnv, Nat.reduceLT, Nat.reduceAdd, Nat.reduceEqDiff, Nat.reduceLeDiff, reduceCtorEq, ↓reduceIte, ares, aresult, pr, Int.reduceEq, Int.reduceLT, Int.reduceLE, Nat.reduceSub, Nat.reduceMul, aFieldAddr, aField, aLoad, aStore, aExtract, aBox, aint, rdVar, rdCells, Value.oneCell', splice, Int.reduceNeg, zvar1, chunks, depth, some_map, Nat.reduceBEq, cf_dyn, okU, Tryz.f53, rf53, TermT.c, hj, hjs, hj1, xj, hw j hj, hc, aSliceS_at, le_succ', ex98 hjs, hg]
        · rw [if_neg (by simp [hjs]), List.append_nil] at hg
          simp only [R0, RC, zipEnv, Nat.reduceLT, Nat.reduceAdd, Nat.reduceEqDiff, Nat.reduceLeDiff, reduceCtorEq, ↓reduceIte, ares, aresult, pr, Int.reduceEq, Int.reduceLT, Int.reduceLE, Nat.reduceSub, Nat.reduceMul, aFieldAddr, aField, aLoad, aStore, aExtract, aBox, aint, rdVar, rdCells, Value.oneCell', splice, Int.reduceNeg, zvar1, chunks, depth, some_map, Nat.reduceBEq, cf_dyn, okU, Tryz.f53, rf53, TermT.c, hj, hjs, xj, hw j hj, hg]) (by simp only [R0, RC, zipEnv, Nat.reduceLT, Nat.reduceAdd, Nat.reduceEqDiff, Nat.reduceLeDiff, reduceCtorEq, ↓reduceIte, ares, aresult, pr, Int.reduceEq, Int.reduceLT, Int.reduceLE, Nat.reduceSub, Nat.reduceMul, aFieldAddr, aField, aLoad, aStore, aExtract, aBox, aint, rdVar, rdCells, Value.oneCell', splice, Int.reduceNeg, zvar1, chunks, depth, some_map, Nat.reduceBEq, cf_dyn, okU, Tryz.f53, rf53]; rfl) rfl
    rw [e1]
    have hr := fun k => rb_acc (k := k) (rows := givB a.args s a.args.length)
    have m2 : mkL 2 [] = mkL 0 [] := rfl
    have m3 : (givB a.args s a.args.length).map TermT.c = tRows (givB a.args s a.args.length) := rfl
    simp only [LitT.c, litG, List.map_nil, m2, m3] at hv
    refine ⟨accB 35 4 (tRows (givB a.args s a.args.length)), ?_⟩
    obtain ⟨g1, g2, g3⟩ := acc_own (b := 0) (sz := 4) (rows := tRows (givB a.args s a.args.length))
    simp only [R0, RC, zipEnv, Nat.reduceLT, Nat.reduceAdd, Nat.reduceEqDiff, Nat.reduceLeDiff, reduceCtorEq, ↓reduceIte, ares, aresult, pr, Int.reduceEq, Int.reduceLT, Int.reduceLE, Nat.reduceSub, Nat.reduceMul, aFieldAddr, aField, aLoad, aStore, aExtract, aBox, aint, rdVar, rdCells, Value.oneCell', splice, Int.reduceNeg, zvar1, chunks, depth, some_map, Nat.reduceBEq, cf_dyn, okU, Tryz.f53, rf53, hr, hv, g1, g2, g3]
    rfl
  obtain ⟨H', e⟩ := key
  exact valD_of e (by rw [show depth = 39 + 1 from rfl]; unfold mkL; split <;> rfl)
end Go.Proofs.YtpgipdajinkdgaaGreatA
