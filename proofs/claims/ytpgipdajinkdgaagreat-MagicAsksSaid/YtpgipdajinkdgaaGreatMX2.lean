/- Names added, each once (the reference). -/
import Derived.Test.YtpgipdajinkdgaaGreatM9
import Derived.Test.YtpgipdajinkdgaaGreatMO
namespace Go.Proofs.YtpgipdajinkdgaaGreatA
open Go Go.RowKit
set_option linter.all false
set_option linter.unusedSectionVars false
set_option linter.constructorNameAsVariable false
set_option linter.unusedVariables false
set_option linter.unusedSimpArgs false
def leB (a b : ByteArray) : Bool := Op.bytesLess a.toList b.toList || a.toList == b.toList
theorem aBin_leqS {H : List Blk} {t : TypeId} {p q : Operand} {a b : ByteArray} (h : Tryz.prog.underlying t = some .string) : aBin Tryz.prog H .leq t p q (.sc (.string a)) (.sc (.string b)) = some (.val (.sc (.bool (leB a b)))) := by
  unfold aBin leB
  rw [nilTest_flat' rfl rfl, ptrTest_flat' rfl]
  simp [toV, pOut, eqGuard, binOp, Op.stringOp, pureRun, ofV, pureRun_bind, pureRun_pure]
def addS (s : ByteArray) (st : Bool × List ByteArray) (x : ByteArray) : Bool × List ByteArray :=
  if (!st.1 && leB s x) = true then (true, if x = s then st.2 ++ [s] else st.2 ++ [s] ++ [x]) else (st.1, if x = s then st.2 else st.2 ++ [x])
def addT (l : List ByteArray) (s : ByteArray) : List ByteArray := if (l.foldl (addS s) (false, [])).1 = true then (l.foldl (addS s) (false, [])).2 else (l.foldl (addS s) (false, [])).2 ++ [s]
theorem addS_len (s : ByteArray) : ∀ (l : List ByteArray) (st : Bool × List ByteArray), (l.foldl (addS s) st).2.length + (if (l.foldl (addS s) st).1 = true then 0 else 1) ≤ st.2.length + l.length + (if st.1 = true then 0 else 1)
  | [], st => Nat.le_refl _
  | x :: l, st => by
    rw [List.foldl_cons]
    refine Nat.le_trans (addS_len s l _) ?_
    obtain ⟨d, o⟩ := st
    rw [List.length_cons]
    unfold addS
    cases d <;> cases leB s x <;> by_cases hx : x = s <;> simp [hx] <;> omega
theorem addT_len (l : List ByteArray) (s : ByteArray) : (addT l s).length ≤ l.length + 1 := by
  have := addS_len s l (false, [])
  unfold addT
  split
  · rename_i h
    simp only [h, if_true, List.length_nil] at this
    simp at this
    omega
  · rename_i h
    simp only [h, if_false, List.length_nil] at this
    simp at this
    simp
    omega
theorem addS_old (s : ByteArray) : ∀ (l : List ByteArray) (st : Bool × List ByteArray) (y : ByteArray), y ∈ st.2 → y ∈ (l.foldl (addS s) st).2
  | [], st, y, h => h
  | x :: l, st, y, h => by
    rw [List.foldl_cons]
    refine addS_old s l _ y ?_
    unfold addS
    split <;> split <;> simp [h]
theorem addS_done (s : ByteArray) : ∀ (l : List ByteArray) (st : Bool × List ByteArray), (st.1 = true → s ∈ st.2) → (l.foldl (addS s) st).1 = true → s ∈ (l.foldl (addS s) st).2
  | [], st, h, h2 => h h2
  | x :: l, st, h, h2 => by
    rw [List.foldl_cons] at h2 ⊢
    refine addS_done s l _ (fun h3 => ?_) h2
    unfold addS at h3 ⊢
    split
    · simp only
      split <;> simp
    · rename_i hc
      rw [if_neg hc] at h3
      have := h h3
      simp only
      split <;> simp [this]
theorem addS_new (s : ByteArray) : ∀ (l : List ByteArray) (st : Bool × List ByteArray) (y : ByteArray), y ∈ l → y ≠ s → y ∈ (l.foldl (addS s) st).2
  | x :: l, st, y, h, hy => by
    rw [List.foldl_cons]
    rcases List.mem_cons.1 h with rfl | h
    · refine addS_old s l _ y ?_
      unfold addS
      rw [if_neg hy, if_neg hy]
      split <;> simp
    · exact addS_new s l _ y h hy
theorem addT_self (l : List ByteArray) (s : ByteArray) : s ∈ addT l s := by
  unfold addT
  split
  · rename_i h
    exact addS_done s l _ (fun h => by cases h) h
  · simp
theorem addT_mem {l : List ByteArray} {s y : ByteArray} (h : y ∈ l) : y ∈ addT l s := by
  by_cases hy : y = s
  · rw [hy]
    exact addT_self l s
  · have := addS_new s l (false, []) y h hy
    unfold addT
    split
    · exact this
    · simp [this]
structure AddI (H0 : List Blk) (o : List ByteArray) (H : List Blk) (v : AV) : Prop where
  out : OutAt 9 1 H v (sRows o)
  keep : ∀ c, c < H0.length → H[c]? = H0[c]?
  own : ∀ c, blkB v = some c → H0.length ≤ c
  len : H0.length ≤ H.length
theorem AddI.nil {H : List Blk} : AddI H [] H (.sc (.slice none 0 0)) := ⟨.inl ⟨rfl, rfl⟩, (fun _ _ => rfl), (fun c h => by cases h), Nat.le_refl _⟩
theorem AddI.push {H0 H : List Blk} {o : List ByteArray} {v : AV} (h : AddI H0 o H v) (x : ByteArray) (hl : o.length ≤ 5000000000002) :
    ∃ v' H', outH H (aappend Tryz.prog H 36 v (mkL 1 [[.sc (.string x)]])) = some (v', H') ∧ AddI H0 (o ++ [x]) H' v' := by
  obtain ⟨v', H', e, o1, l1, k1, f1⟩ := appF (r := [.sc (.string x)]) ro36 h.out sRows_row rfl rfl (by unfold sRows; rw [List.length_map]; omega) (by unfold sRows; rw [List.length_map]; unfold maxLen; omega)
  have e2 : sRows (o ++ [x]) = sRows o ++ [[.sc (.string x)]] := by simp [sRows, sC]
  refine ⟨v', H', e, by rw [e2]; exact o1, fun c hc => ?_, fun c hc => ?_, Nat.le_trans h.len l1⟩
  · rw [k1 c (Nat.lt_of_lt_of_le hc h.len) fun hb => by have := h.own c hb; omega]
    exact h.keep c hc
  · rcases f1 c hc with hb | hb
    · exact h.own c hb
    · exact Nat.le_trans h.len hb
theorem sRows_at {l : List ByteArray} {j : Nat} {x : ByteArray} (h : l[j]? = some x) : j + 1 ≤ (sRows l).flatten.length ∧ (sRows l).flatten[j]? = some (.sc (.string x)) := by
  have e : (sRows l).flatten = l.map fun s => AV.sc (.string s) := by
    clear h
    induction l with
    | nil => rfl
    | cons a l ih => simp only [sRows, List.map_cons, List.flatten_cons] at *; rw [ih]; rfl
  obtain ⟨hj, rfl⟩ := List.getElem?_eq_some_iff.1 h
  rw [e, List.length_map]
  refine ⟨by omega, ?_⟩
  rw [List.getElem?_map, List.getElem?_eq_getElem hj]
  rfl
set_option maxHeartbeats 2000000 in
theorem add_run (l : List ByteArray) (s : ByteArray) (hl : l.length ≤ 5000000000000) (k : Nat) (hk : 5000000000002 ≤ k) {v : AV} {H : List Blk} (ho : OutAt 9 1 H v (sRows l)) :
    ∃ v' H', arun Tryz.prog cf k 69 [v, .sc (.string s)] H = some (v', H') ∧ AddI H (addT l s) H' v' := by
  obtain ⟨k, rfl⟩ : ∃ j, k = j + 1 := ⟨k - 1, by omega⟩
  rw [arun_body rfl rfl Tryz.func69 rfl (N := 48) rfl]
  have hw : ∀ j, j < l.length → IntKind.i64.wrap (((j : Nat) : Int) + 1) = ((j + 1 : Nat) : Int) := fun j hj => wrap_succ (by omega)
  have len0 := fun H => lenNil (H := H) Tryz.underlying36
  rcases ho with ⟨h0, rfl⟩ | ⟨hne, b, ver, rfl, hb⟩
  · have hl0 : l = [] := by unfold sRows at h0; simpa using h0
    subst hl0
    obtain ⟨v2, H2, e2, hI⟩ := (AddI.nil (H := H)).push s (by simp)
    refine ⟨v2, H2, ?_, hI⟩
    simp only [R0, RC, zipEnv, Nat.reduceLT, Nat.reduceAdd, Nat.reduceEqDiff, Nat.reduceLeDiff, reduceCtorEq, ↓reduceIte, ares, aresult, pr, Int.reduceEq, Int.reduceLT, Int.reduceLE, Nat.reduceSub, Nat.reduceMul, aFieldAddr, aField, aLoad, aStore, aExtract, aBox, aint, rdVar, rdCells, Value.oneCell', splice, Int.reduceNeg, zvar1, chunks, depth, some_map, Nat.reduceBEq, cf_dyn, okU, Tryz.f69, rf69, len0]
    generalize hA : aloop _ _ _ _ _ _ _ _ _ _ _ = A
    have e1 := aloop_eqR hA [0, 1, 5, 6, 9, 10] (fun j => ⟨[(0, .sc (.slice none 0 0)), (1, .sc (.string s)), (5, .sc (.slice none 0 0)), (6, .sc (.bool false)), (9, .sc (.int .i64 0)), (10, .sc (.int .i64 (j : Nat)))], H⟩) 0 (by omega) rfl (by simp only [R0, RC, zipEnv, Nat.reduceLT, Nat.reduceAdd, Nat.reduceEqDiff, Nat.reduceLeDiff, reduceCtorEq, ↓reduceIte, ares, aresult, pr, Int.reduceEq, Int.reduceLT, Int.reduceLE, Nat.reduceSub, Nat.reduceMul, aFieldAddr, aField, aLoad, aStore, aExtract, aBox, aint, rdVar, rdCells, Value.oneCell', splice, Int.reduceNeg, zvar1, chunks, depth, some_map, Nat.reduceBEq, cf_dyn, okU, Tryz.f69, rf69]; try rfl) (fun j hj => by omega) (by simp only [R0, RC, zipEnv, Nat.reduceLT, Nat.reduceAdd, Nat.reduceEqDiff, Nat.reduceLeDiff, reduceCtorEq, ↓reduceIte, ares, aresult, pr, Int.reduceEq, Int.reduceLT, Int.reduceLE, Nat.reduceSub, Nat.reduceMul, aFieldAddr, aField, aLoad, aStore, aExtract, aBox, aint, rdVar, rdCells, Value.oneCell', splice, Int.reduceNeg, zvar1, chunks, depth, some_map, Nat.reduceBEq, cf_dyn, okU, Tryz.f69, rf69]; try rfl) rfl
    rw [e1]
    simp only [R0, RC, zipEnv, Nat.reduceLT, Nat.reduceAdd, Nat.reduceEqDiff, Nat.reduceLeDiff, reduceCtorEq, ↓reduceIte, ares, aresult, pr, Int.reduceEq, Int.reduceLT, Int.reduceLE, Nat.reduceSub, Nat.reduceMul, aFieldAddr, aField, aLoad, aStore, aExtract, aBox, aint, rdVar, rdCells, Value.oneCell', splice, Int.reduceNeg, zvar1, chunks, depth, some_map, Nat.reduceBEq, cf_dyn, okU, Tryz.f69, rf69, e2]
  · have hrl : (sRows l).length = l.length := by unfold sRows; simp
    have hbl : b < H.length := (List.getElem?_eq_some_iff.1 hb).1
    rw [hrl]
    simp only [R0, RC, zipEnv, Nat.reduceLT, Nat.reduceAdd, Nat.reduceEqDiff, Nat.reduceLeDiff, reduceCtorEq, ↓reduceIte, ares, aresult, pr, Int.reduceEq, Int.reduceLT, Int.reduceLE, Nat.reduceSub, Nat.reduceMul, aFieldAddr, aField, aLoad, aStore, aExtract, aBox, aint, rdVar, rdCells, Value.oneCell', splice, Int.reduceNeg, zvar1, chunks, depth, some_map, Nat.reduceBEq, cf_dyn, okU, Tryz.f69, rf69, hb]
    generalize hA : aloop _ _ _ _ _ _ _ _ _ _ _ = A
    obtain ⟨s1, ⟨v1, H1, hI, hs⟩, e1⟩ := aloop_inv2 hA [0, 1, 5, 6, 9, 10] (fun j s1 => ∃ v1 H1, AddI H ((l.take j).foldl (addS s) (false, [])).2 H1 v1 ∧ s1 = ⟨[(0, .own b 0 l.length 1 ver), (1, .sc (.string s)), (5, v1), (6, .sc (.bool ((l.take j).foldl (addS s) (false, [])).1)), (9, .sc (.int .i64 l.length)), (10, .sc (.int .i64 (j : Nat)))], H1⟩) l.length (by omega) rfl ⟨_, _, AddI.nil, by simp only [R0, RC, zipEnv, Nat.reduceLT, Nat.reduceAdd, Nat.reduceEqDiff, Nat.reduceLeDiff, reduceCtorEq, ↓reduceIte, ares, aresult, pr, Int.reduceEq, Int.reduceLT, Int.reduceLE, Nat.reduceSub, Nat.reduceMul, aFieldAddr, aField, aLoad, aStore, aExtract, aBox, aint, rdVar, rdCells, Value.oneCell', splice, Int.reduceNeg, zvar1, chunks, depth, some_map, Nat.reduceBEq, cf_dyn, okU, Tryz.f69, rf69]; try rfl⟩ (fun j hj s1 ⟨v1, H1, hI, hs⟩ => by
      subst hs
      obtain ⟨x, hx⟩ : ∃ x, x = l[j] := ⟨_, rfl⟩
      have xj : l[j]? = some x := by rw [hx]; exact List.getElem?_eq_getElem hj
      have hlen := addS_len s (l.take j) (false, [])
      rw [List.length_take] at hlen
      rw [List.take_succ_eq_append_getElem hj, List.foldl_append, ← hx]
      simp only [List.foldl_cons, List.foldl_nil]
      have hol : ((l.take j).foldl (addS s) (false, [])).2.length ≤ 5000000000001 := by
        simp only [List.length_nil] at hlen
        split at hlen <;> simp at hlen <;> omega
      generalize (l.take j).foldl (addS s) (false, []) = st at *
      obtain ⟨d, o⟩ := st
      simp only at hol hI
      have G1 := hI.keep b hbl
      rw [hb] at G1
      obtain ⟨hfit, hfr⟩ := sRows_at xj
      cases d with
      | true =>
        by_cases hxs : x = s
        · subst hxs
          have ha : addS x (true, o) x = (true, o) := by unfold addS; simp
          rw [ha]
          exact ⟨_, by simp only [R0, RC, zipEnv, Nat.reduceLT, Nat.reduceAdd, Nat.reduceEqDiff, Nat.reduceLeDiff, reduceCtorEq, ↓reduceIte, ares, aresult, pr, Int.reduceEq, Int.reduceLT, Int.reduceLE, Nat.reduceSub, Nat.reduceMul, aFieldAddr, aField, aLoad, aStore, aExtract, aBox, aint, rdVar, rdCells, Value.oneCell', splice, Int.reduceNeg, zvar1, chunks, depth, some_map, Nat.reduceBEq, cf_dyn, okU, Tryz.f69, rf69, sC, hj, hw j hj, G1, hfit, hfr], _, _, hI, rfl⟩
        · have ha : addS s (true, o) x = (true, o ++ [x]) := by unfold addS; simp [hxs]
          rw [ha]
          obtain ⟨v2, H2, e2, hI2⟩ := hI.push x (by omega)
          exact ⟨_, by simp only [R0, RC, zipEnv, Nat.reduceLT, Nat.reduceAdd, Nat.reduceEqDiff, Nat.reduceLeDiff, reduceCtorEq, ↓reduceIte, ares, aresult, pr, Int.reduceEq, Int.reduceLT, Int.reduceLE, Nat.reduceSub, Nat.reduceMul, aFieldAddr, aField, aLoad, aStore, aExtract, aBox, aint, rdVar, rdCells, Value.oneCell', splice, Int.reduceNeg, zvar1, chunks, depth, some_map, Nat.reduceBEq, cf_dyn, okU, Tryz.f69, rf69, sC, hj, hw j hj, G1, hfit, hfr, hxs, e2], _, _, hI2, rfl⟩
      | false =>
        have hle := fun H => aBin_leqS (H := H) (p := .tmp 16) (q := .tmp 20) (a := s) (b := x) Tryz.underlying9
        cases hbb : leB s x with
        | true =>
          rw [hbb] at hle
          obtain ⟨v2, H2, e2, hI2⟩ := hI.push s (by omega)
          have G2 := hI2.keep b hbl
          rw [hb] at G2
          by_cases hxs : x = s
          · subst hxs
            have ha : addS x (false, o) x = (true, o ++ [x]) := by unfold addS; simp [hbb]
            rw [ha]
            exact ⟨_, by simp only [R0, RC, zipEnv, Nat.reduceLT, Nat.reduceAdd, Nat.reduceEqDiff, Nat.reduceLeDiff, reduceCtorEq, ↓reduceIte, ares, aresult, pr, Int.reduceEq, Int.reduceLT, Int.reduceLE, Nat.reduceSub, Nat.reduceMul, aFieldAddr, aField, aLoad, aStore, aExtract, aBox, aint, rdVar, rdCells, Value.oneCell', splice, Int.reduceNeg, zvar1, chunks, depth, some_map, Nat.reduceBEq, cf_dyn, okU, Tryz.f69, rf69, sC, hj, hw j hj, G1, G2, hfit, hfr, e2, hle], _, _, hI2, rfl⟩
          · have ha : addS s (false, o) x = (true, o ++ [s] ++ [x]) := by unfold addS; simp [hbb, hxs]
            rw [ha]
            obtain ⟨v3, H3, e3, hI3⟩ := hI2.push x (by rw [List.length_append, List.length_singleton]; omega)
            exact ⟨_, by simp only [R0, RC, zipEnv, Nat.reduceLT, Nat.reduceAdd, Nat.reduceEqDiff, Nat.reduceLeDiff, reduceCtorEq, ↓reduceIte, ares, aresult, pr, Int.reduceEq, Int.reduceLT, Int.reduceLE, Nat.reduceSub, Nat.reduceMul, aFieldAddr, aField, aLoad, aStore, aExtract, aBox, aint, rdVar, rdCells, Value.oneCell', splice, Int.reduceNeg, zvar1, chunks, depth, some_map, Nat.reduceBEq, cf_dyn, okU, Tryz.f69, rf69, sC, hj, hw j hj, G1, G2, hfit, hfr, hxs, e2, e3, hle], _, _, hI3, rfl⟩
        | false =>
          rw [hbb] at hle
          by_cases hxs : x = s
          · subst hxs
            have ha : addS x (false, o) x = (false, o) := by unfold addS; simp [hbb]
            rw [ha]
            exact ⟨_, by simp only [R0, RC, zipEnv, Nat.reduceLT, Nat.reduceAdd, Nat.reduceEqDiff, Nat.reduceLeDiff, reduceCtorEq, ↓reduceIte, ares, aresult, pr, Int.reduceEq, Int.reduceLT, Int.reduceLE, Nat.reduceSub, Nat.reduceMul, aFieldAddr, aField, aLoad, aStore, aExtract, aBox, aint, rdVar, rdCells, Value.oneCell', splice, Int.reduceNeg, zvar1, chunks, depth, some_map, Nat.reduceBEq, cf_dyn, okU, Tryz.f69, rf69, sC, hj, hw j hj, G1, hfit, hfr, hle], _, _, hI, rfl⟩
          · have ha : addS s (false, o) x = (false, o ++ [x]) := by unfold addS; simp [hbb, hxs]
            rw [ha]
            obtain ⟨v2, H2, e2, hI2⟩ := hI.push x (by omega)
            exact ⟨_, by simp only [R0, RC, zipEnv, Nat.reduceLT, Nat.reduceAdd, Nat.reduceEqDiff, Nat.reduceLeDiff, reduceCtorEq, ↓reduceIte, ares, aresult, pr, Int.reduceEq, Int.reduceLT, Int.reduceLE, Nat.reduceSub, Nat.reduceMul, aFieldAddr, aField, aLoad, aStore, aExtract, aBox, aint, rdVar, rdCells, Value.oneCell', splice, Int.reduceNeg, zvar1, chunks, depth, some_map, Nat.reduceBEq, cf_dyn, okU, Tryz.f69, rf69, sC, hj, hw j hj, G1, hfit, hfr, hxs, e2, hle], _, _, hI2, rfl⟩) (fun s1 ⟨v1, H1, hI, hs⟩ => by
      subst hs
      simp only [R0, RC, zipEnv, Nat.reduceLT, Nat.reduceAdd, Nat.reduceEqDiff, Nat.reduceLeDiff, reduceCtorEq, ↓reduceIte, ares, aresult, pr, Int.reduceEq, Int.reduceLT, Int.reduceLE, Nat.reduceSub, Nat.reduceMul, aFieldAddr, aField, aLoad, aStore, aExtract, aBox, aint, rdVar, rdCells, Value.oneCell', splice, Int.reduceNeg, zvar1, chunks, depth, some_map, Nat.reduceBEq, cf_dyn, okU, Tryz.f69, rf69])
    subst hs
    rw [List.take_length] at hI
    rw [e1, List.take_length]
    have hlen := addS_len s l (false, [])
    unfold addT
    have hol : (l.foldl (addS s) (false, [])).2.length ≤ 5000000000001 := by
      simp only [List.length_nil] at hlen
      split at hlen <;> simp at hlen <;> omega
    generalize l.foldl (addS s) (false, []) = st at *
    obtain ⟨d, o⟩ := st
    simp only at hol hI
    cases d with
    | true => exact ⟨v1, H1, by simp only [R0, RC, zipEnv, Nat.reduceLT, Nat.reduceAdd, Nat.reduceEqDiff, Nat.reduceLeDiff, reduceCtorEq, ↓reduceIte, ares, aresult, pr, Int.reduceEq, Int.reduceLT, Int.reduceLE, Nat.reduceSub, Nat.reduceMul, aFieldAddr, aField, aLoad, aStore, aExtract, aBox, aint, rdVar, rdCells, Value.oneCell', splice, Int.reduceNeg, zvar1, chunks, depth, some_map, Nat.reduceBEq, cf_dyn, okU, Tryz.f69, rf69], hI⟩
    | false =>
      obtain ⟨v2, H2, e2, hI2⟩ := hI.push s (by omega)
      exact ⟨v2, H2, by simp only [R0, RC, zipEnv, Nat.reduceLT, Nat.reduceAdd, Nat.reduceEqDiff, Nat.reduceLeDiff, reduceCtorEq, ↓reduceIte, ares, aresult, pr, Int.reduceEq, Int.reduceLT, Int.reduceLE, Nat.reduceSub, Nat.reduceMul, aFieldAddr, aField, aLoad, aStore, aExtract, aBox, aint, rdVar, rdCells, Value.oneCell', splice, Int.reduceNeg, zvar1, chunks, depth, some_map, Nat.reduceBEq, cf_dyn, okU, Tryz.f69, rf69, e2], hI2⟩
def nm11 (more : List ByteArray) : List ByteArray := more.foldl addT []
theorem nm11_len : ∀ (l o : List ByteArray), (l.foldl addT o).length ≤ o.length + l.length
  | [], o => Nat.le_refl _
  | x :: l, o => by
    rw [List.foldl_cons, List.length_cons]
    have := nm11_len l (addT o x)
    have := addT_len o x
    omega
theorem nm11_old : ∀ (l o : List ByteArray) (y : ByteArray), y ∈ o → y ∈ l.foldl addT o
  | [], o, y, h => h
  | x :: l, o, y, h => by
    rw [List.foldl_cons]
    exact nm11_old l _ y (addT_mem h)
theorem nm11_mem : ∀ (l o : List ByteArray) (y : ByteArray), y ∈ l → y ∈ l.foldl addT o
  | x :: l, o, y, h => by
    rw [List.foldl_cons]
    rcases List.mem_cons.1 h with rfl | h
    · exact nm11_old l _ y (addT_self o y)
    · exact nm11_mem l _ y h
theorem AddI.trans {H0 H H1 : List Blk} {o o1 : List ByteArray} {v v1 : AV} (h : AddI H0 o H v) (h1 : AddI H o1 H1 v1) : AddI H0 o1 H1 v1 :=
  ⟨h1.out, fun c hc => by rw [h1.keep c (Nat.lt_of_lt_of_le hc h.len)]; exact h.keep c hc, fun c hc => Nat.le_trans h.len (h1.own c hc), Nat.le_trans h.len h1.len⟩
set_option maxHeartbeats 1000000 in
theorem names11_run (more : List ByteArray) (hl : more.length ≤ 5000000000000) (k : Nat) (hk : 5000000000010 ≤ k) {v : AV} {H : List Blk} (ho : OutAt 9 1 H v (sRows more)) :
    ∃ v' H', arun Tryz.prog cf k 41 [.sc (.slice none 0 0), v] H = some (v', H') ∧ AddI H (nm11 more) H' v' := by
  obtain ⟨k, rfl⟩ : ∃ j, k = j + 1 := ⟨k - 1, by omega⟩
  rw [arun_body rfl rfl Tryz.func41 rfl (N := 40) rfl]
  have hw : ∀ j, j < more.length → IntKind.i64.wrap (((j : Nat) : Int) + 1) = ((j + 1 : Nat) : Int) := fun j hj => wrap_succ (by omega)
  have len0 := fun H => lenNil (H := H) Tryz.underlying36
  have len1 := fun H => lenNil (H := H) Tryz.underlying24
  have hlv : aLen Tryz.prog H 36 v = some (.val (.sc (.int .i64 (more.length : Nat)))) := by
    rcases ho with ⟨h0, rfl⟩ | ⟨hne, b, ver, rfl, hb⟩
    · have hl0 : more = [] := by unfold sRows at h0; simpa using h0
      subst hl0
      exact len0 H
    · have hrl : (sRows more).length = more.length := by unfold sRows; simp
      rw [hrl]
      simp only [aLen, alen]
      rw [Tryz.underlying36]
  simp only [R0, RC, zipEnv, Nat.reduceLT, Nat.reduceAdd, Nat.reduceEqDiff, Nat.reduceLeDiff, reduceCtorEq, ↓reduceIte, ares, aresult, pr, Int.reduceEq, Int.reduceLT, Int.reduceLE, Nat.reduceSub, Nat.reduceMul, aFieldAddr, aField, aLoad, aStore, aExtract, aBox, aint, rdVar, rdCells, Value.oneCell', splice, Int.reduceNeg, zvar1, chunks, depth, some_map, Nat.reduceBEq, cf_dyn, okU, Tryz.f41, rf41, hlv]
  generalize hA : aloop _ _ _ _ _ _ _ _ _ _ _ = A
  obtain ⟨s1, ⟨v1, H1, hI, hs⟩, e1⟩ := aloop_inv2 hA [0, 1, 5, 9, 10] (fun j s1 => ∃ v1 H1, AddI H ((more.take j).foldl addT []) H1 v1 ∧ s1 = ⟨[(0, .sc (.slice none 0 0)), (1, v), (5, v1), (9, .sc (.int .i64 more.length)), (10, .sc (.int .i64 (j : Nat)))], H1⟩) more.length (by omega) rfl ⟨_, _, AddI.nil, by simp only [R0, RC, zipEnv, Nat.reduceLT, Nat.reduceAdd, Nat.reduceEqDiff, Nat.reduceLeDiff, reduceCtorEq, ↓reduceIte, ares, aresult, pr, Int.reduceEq, Int.reduceLT, Int.reduceLE, Nat.reduceSub, Nat.reduceMul, aFieldAddr, aField, aLoad, aStore, aExtract, aBox, aint, rdVar, rdCells, Value.oneCell', splice, Int.reduceNeg, zvar1, chunks, depth, some_map, Nat.reduceBEq, cf_dyn, okU, Tryz.f41, rf41]; try rfl⟩ (fun j hj s1 ⟨v1, H1, hI, hs⟩ => by
      subst hs
      obtain ⟨x, hx⟩ : ∃ x, x = more[j] := ⟨_, rfl⟩
      have xj : more[j]? = some x := by rw [hx]; exact List.getElem?_eq_getElem hj
      have hlen := nm11_len (more.take j) []
      rw [List.length_take, List.length_nil] at hlen
      rw [List.take_succ_eq_append_getElem hj, List.foldl_append, ← hx]
      simp only [List.foldl_cons, List.foldl_nil]
      generalize (more.take j).foldl addT [] = o at *
      rcases ho with ⟨h0, rfl⟩ | ⟨hne, b, ver, rfl, hb⟩
      · have hl0 : more = [] := by unfold sRows at h0; simpa using h0
        rw [hl0] at hj
        simp at hj
      · have hrl : (sRows more).length = more.length := by unfold sRows; simp
        have G1 := hI.keep b (List.getElem?_eq_some_iff.1 hb).1
        rw [hb] at G1
        rw [hrl]
        obtain ⟨hfit, hfr⟩ := sRows_at xj
        obtain ⟨v2, H2, e2, hI2⟩ := add_run o x (by omega) k (by omega) hI.out
        exact ⟨_, by simp only [R0, RC, zipEnv, Nat.reduceLT, Nat.reduceAdd, Nat.reduceEqDiff, Nat.reduceLeDiff, reduceCtorEq, ↓reduceIte, ares, aresult, pr, Int.reduceEq, Int.reduceLT, Int.reduceLE, Nat.reduceSub, Nat.reduceMul, aFieldAddr, aField, aLoad, aStore, aExtract, aBox, aint, rdVar, rdCells, Value.oneCell', splice, Int.reduceNeg, zvar1, chunks, depth, some_map, Nat.reduceBEq, cf_dyn, okU, Tryz.f41, rf41, hj, hw j hj, G1, hfit, hfr, e2], _, _, hI.trans hI2, rfl⟩) (fun s1 ⟨v1, H1, hI, hs⟩ => by
      subst hs
      simp only [R0, RC, zipEnv, Nat.reduceLT, Nat.reduceAdd, Nat.reduceEqDiff, Nat.reduceLeDiff, reduceCtorEq, ↓reduceIte, ares, aresult, pr, Int.reduceEq, Int.reduceLT, Int.reduceLE, Nat.reduceSub, Nat.reduceMul, aFieldAddr, aField, aLoad, aStore, aExtract, aBox, aint, rdVar, rdCells, Value.oneCell', splice, Int.reduceNeg, zvar1, chunks, depth, some_map, Nat.reduceBEq, cf_dyn, okU, Tryz.f41, rf41])
  subst hs
  rw [List.take_length] at hI
  rw [e1]
  refine ⟨v1, H1, ?_, hI⟩
  simp only [R0, RC, zipEnv, Nat.reduceLT, Nat.reduceAdd, Nat.reduceEqDiff, Nat.reduceLeDiff, reduceCtorEq, ↓reduceIte, ares, aresult, pr, Int.reduceEq, Int.reduceLT, Int.reduceLE, Nat.reduceSub, Nat.reduceMul, aFieldAddr, aField, aLoad, aStore, aExtract, aBox, aint, rdVar, rdCells, Value.oneCell', splice, Int.reduceNeg, zvar1, chunks, depth, some_map, Nat.reduceBEq, cf_dyn, okU, Tryz.f41, rf41, len1]
  generalize hB : aloop _ _ _ _ _ _ _ _ _ _ _ = B
  have e2 := aloop_eqR hB [0, 5, 21, 22] (fun j => ⟨[(0, .sc (.slice none 0 0)), (5, v1), (21, .sc (.int .i64 0)), (22, .sc (.int .i64 (j : Nat)))], H1⟩) 0 (by omega) rfl (by simp only [R0, RC, zipEnv, Nat.reduceLT, Nat.reduceAdd, Nat.reduceEqDiff, Nat.reduceLeDiff, reduceCtorEq, ↓reduceIte, ares, aresult, pr, Int.reduceEq, Int.reduceLT, Int.reduceLE, Nat.reduceSub, Nat.reduceMul, aFieldAddr, aField, aLoad, aStore, aExtract, aBox, aint, rdVar, rdCells, Value.oneCell', splice, Int.reduceNeg, zvar1, chunks, depth, some_map, Nat.reduceBEq, cf_dyn, okU, Tryz.f41, rf41]; try rfl) (fun j hj => by omega) (by simp only [R0, RC, zipEnv, Nat.reduceLT, Nat.reduceAdd, Nat.reduceEqDiff, Nat.reduceLeDiff, reduceCtorEq, ↓reduceIte, ares, aresult, pr, Int.reduceEq, Int.reduceLT, Int.reduceLE, Nat.reduceSub, Nat.reduceMul, aFieldAddr, aField, aLoad, aStore, aExtract, aBox, aint, rdVar, rdCells, Value.oneCell', splice, Int.reduceNeg, zvar1, chunks, depth, some_map, Nat.reduceBEq, cf_dyn, okU, Tryz.f41, rf41]; try rfl) rfl
  rw [e2]
  simp only [R0, RC, zipEnv, Nat.reduceLT, Nat.reduceAdd, Nat.reduceEqDiff, Nat.reduceLeDiff, reduceCtorEq, ↓reduceIte, ares, aresult, pr, Int.reduceEq, Int.reduceLT, Int.reduceLE, Nat.reduceSub, Nat.reduceMul, aFieldAddr, aField, aLoad, aStore, aExtract, aBox, aint, rdVar, rdCells, Value.oneCell', splice, Int.reduceNeg, zvar1, chunks, depth, some_map, Nat.reduceBEq, cf_dyn, okU, Tryz.f41, rf41]
end Go.Proofs.YtpgipdajinkdgaaGreatA

namespace Go.Proofs.YtpgipdajinkdgaaGreatA
open Go Go.RowKit
set_option linter.all false
set_option linter.unusedSectionVars false
set_option linter.constructorNameAsVariable false
set_option linter.unusedVariables false
set_option linter.unusedSimpArgs false
theorem accS (R : List ByteArray) (x : ByteArray) (hR : R.length ≤ 1000000) : outH (accB 9 1 (sRows R)) (aappend Tryz.prog (accB 9 1 (sRows R)) 36 (accV 0 1 (sRows R)) (mkL 1 [[.sc (.string x)]])) = some (accV 0 1 (sRows (R ++ [x])), accB 9 1 (sRows (R ++ [x]))) := by
  have hb := acc1_0 (P := Tryz.prog) (rows := sRows R) (r := [.sc (.string x)]) ro36 sRows_row rfl rfl (by unfold sRows; rw [List.length_map]; omega) (by unfold sRows; rw [List.length_map]; unfold maxLen; omega)
  have e2 : sRows (R ++ [x]) = sRows R ++ [[.sc (.string x)]] := by simp [sRows, sC]
  rw [← e2] at hb
  exact hb
def use13 (l : LitT) : List ByteArray := if l.k = 1 ∨ l.k = 2 then [l.a.p] else if l.k = 5 then labs l.path else []
theorem use13_len (l : LitT) : (use13 l).length ≤ l.path.length + 1 := by
  unfold use13
  split
  · simp
  · split
    · have := labs_len l.path
      omega
    · simp
set_option maxHeartbeats 1000000 in
theorem uses13_run (l : LitT) (hl : l.path.length ≤ 1000) (k : Nat) (hk : 5000000000020 ≤ k) : val Tryz.prog cf k 68 [.agg l.c] = some (mkL 1 (sRows (nm11 (use13 l)))) := by
  obtain ⟨k, rfl⟩ : ∃ j, k = j + 1 := ⟨k - 1, by omega⟩
  have hn := fun (v : AV) (H : List Blk) => names11_run (use13 l) (by have := use13_len l; omega) k (by omega) (v := v) (H := H)
  have key : ∃ v H', arun Tryz.prog cf (k + 1) 68 [.agg l.c] [] = some (v, H') ∧ OutAt 9 1 H' v (sRows (nm11 (use13 l))) := by
    rw [arun_body rfl rfl Tryz.func68 rfl (N := 47) rfl]
    have hv0 : accV 0 1 (sRows []) = .sc (.slice none 0 0) := rfl
    have hb0 : accB 9 1 (sRows []) = [] := rfl
    have h0 := accS [] l.a.p (by simp)
    rw [hv0, hb0] at h0
    unfold use13 at hn ⊢
    by_cases h1 : l.k = 1
    · rw [if_pos (.inl h1)] at hn ⊢
      obtain ⟨v', H', e, hI⟩ := hn (accV 0 1 [sC l.a.p]) (accB 9 1 [sC l.a.p]) acc_out0
      exact ⟨_, _, by simp only [R0, RC, zipEnv, Nat.reduceLT, Nat.reduceAdd, Nat.reduceEqDiff, Nat.reduceLeDiff, reduceCtorEq, ↓reduceIte, ares, aresult, pr, Int.reduceEq, Int.reduceLT, Int.reduceLE, Nat.reduceSub, Nat.reduceMul, aFieldAddr, aField, aLoad, aStore, aExtract, aBox, aint, rdVar, rdCells, Value.oneCell', splice, Int.reduceNeg, zvar1, chunks, depth, some_map, Nat.reduceBEq, cf_dyn, okU, Tryz.f68, rf68, LitT.c, h1, h0, e]; try rfl, hI.out⟩
    · by_cases h2 : l.k = 2
      · rw [if_pos (.inr h2)] at hn ⊢
        obtain ⟨v', H', e, hI⟩ := hn (accV 0 1 [sC l.a.p]) (accB 9 1 [sC l.a.p]) acc_out0
        exact ⟨_, _, by simp only [R0, RC, zipEnv, Nat.reduceLT, Nat.reduceAdd, Nat.reduceEqDiff, Nat.reduceLeDiff, reduceCtorEq, ↓reduceIte, ares, aresult, pr, Int.reduceEq, Int.reduceLT, Int.reduceLE, Nat.reduceSub, Nat.reduceMul, aFieldAddr, aField, aLoad, aStore, aExtract, aBox, aint, rdVar, rdCells, Value.oneCell', splice, Int.reduceNeg, zvar1, chunks, depth, some_map, Nat.reduceBEq, cf_dyn, okU, Tryz.f68, rf68, LitT.c, h2, h0, e]; try rfl, hI.out⟩
      · rw [if_neg (by omega)] at hn ⊢
        by_cases h5 : l.k = 5
        · rw [if_pos h5] at hn ⊢
          have hw := wraps (n := l.path.length) (by omega)
          simp only [R0, RC, zipEnv, Nat.reduceLT, Nat.reduceAdd, Nat.reduceEqDiff, Nat.reduceLeDiff, reduceCtorEq, ↓reduceIte, ares, aresult, pr, Int.reduceEq, Int.reduceLT, Int.reduceLE, Nat.reduceSub, Nat.reduceMul, aFieldAddr, aField, aLoad, aStore, aExtract, aBox, aint, rdVar, rdCells, Value.oneCell', splice, Int.reduceNeg, zvar1, chunks, depth, some_map, Nat.reduceBEq, cf_dyn, okU, Tryz.f68, rf68, LitT.c, h5]
          generalize hA : aloop _ _ _ _ _ _ _ _ _ _ _ = A
          have e1 := aloop_eqR hA [1, 3, 24, 25] (fun j => ⟨[(1, .ro l.c), (3, accV 0 1 (sRows (labs (l.path.take j)))), (24, .sc (.int .i64 l.path.length)), (25, .sc (.int .i64 (j : Nat)))], accB 9 1 (sRows (labs (l.path.take j)))⟩) l.path.length (by omega) rfl (by simp only [R0, RC, zipEnv, Nat.reduceLT, Nat.reduceAdd, Nat.reduceEqDiff, Nat.reduceLeDiff, reduceCtorEq, ↓reduceIte, ares, aresult, pr, Int.reduceEq, Int.reduceLT, Int.reduceLE, Nat.reduceSub, Nat.reduceMul, aFieldAddr, aField, aLoad, aStore, aExtract, aBox, aint, rdVar, rdCells, Value.oneCell', splice, Int.reduceNeg, zvar1, chunks, depth, some_map, Nat.reduceBEq, cf_dyn, okU, Tryz.f68, rf68, LitT.c, h5]; try rfl) (fun j hj => by
            obtain ⟨x, hx⟩ : ∃ x, x = l.path[j] := ⟨_, rfl⟩
            have xj : l.path[j]? = some x := by rw [hx]; exact List.getElem?_eq_getElem hj
            have hsn := labs_snoc xj
            have hll := labs_len (l.path.take j)
            rw [List.length_take] at hll
            rw [hsn]
            generalize labs (l.path.take j) = o at *
            have ha := accS o x.l (by omega)
            by_cases hx0 : x.l = .empty
            · simp only [R0, RC, zipEnv, Nat.reduceLT, Nat.reduceAdd, Nat.reduceEqDiff, Nat.reduceLeDiff, reduceCtorEq, ↓reduceIte, ares, aresult, pr, Int.reduceEq, Int.reduceLT, Int.reduceLE, Nat.reduceSub, Nat.reduceMul, aFieldAddr, aField, aLoad, aStore, aExtract, aBox, aint, rdVar, rdCells, Value.oneCell', splice, Int.reduceNeg, zvar1, chunks, depth, some_map, Nat.reduceBEq, cf_dyn, okU, Tryz.f68, rf68, LitT.c, StepT.c, h5, hj, xj, hw j hj, hx0]
            · rw [if_neg hx0]
              simp only [R0, RC, zipEnv, Nat.reduceLT, Nat.reduceAdd, Nat.reduceEqDiff, Nat.reduceLeDiff, reduceCtorEq, ↓reduceIte, ares, aresult, pr, Int.reduceEq, Int.reduceLT, Int.reduceLE, Nat.reduceSub, Nat.reduceMul, aFieldAddr, aField, aLoad, aStore, aExtract, aBox, aint, rdVar, rdCells, Value.oneCell', splice, Int.reduceNeg, zvar1, chunks, depth, some_map, Nat.reduceBEq, cf_dyn, okU, Tryz.f68, rf68, LitT.c, StepT.c, h5, hj, xj, hw j hj, hx0, ha]) (by simp only [R0, RC, zipEnv, Nat.reduceLT, Nat.reduceAdd, Nat.reduceEqDiff, Nat.reduceLeDiff, reduceCtorEq, ↓reduceIte, ares, aresult, pr, Int.reduceEq, Int.reduceLT, Int.reduceLE, Nat.reduceSub, Nat.reduceMul, aFieldAddr, aField, aLoad, aStore, aExtract, aBox, aint, rdVar, rdCells, Value.oneCell', splice, Int.reduceNeg, zvar1, chunks, depth, some_map, Nat.reduceBEq, cf_dyn, okU, Tryz.f68, rf68]; try rfl) rfl
          rw [e1, List.take_length]
          obtain ⟨v', H', e, hI⟩ := hn (accV 0 1 (sRows (labs l.path))) _ acc_out0
          exact ⟨_, _, by simp only [R0, RC, zipEnv, Nat.reduceLT, Nat.reduceAdd, Nat.reduceEqDiff, Nat.reduceLeDiff, reduceCtorEq, ↓reduceIte, ares, aresult, pr, Int.reduceEq, Int.reduceLT, Int.reduceLE, Nat.reduceSub, Nat.reduceMul, aFieldAddr, aField, aLoad, aStore, aExtract, aBox, aint, rdVar, rdCells, Value.oneCell', splice, Int.reduceNeg, zvar1, chunks, depth, some_map, Nat.reduceBEq, cf_dyn, okU, Tryz.f68, rf68, LitT.c, e]; try rfl, hI.out⟩
        · rw [if_neg h5] at hn ⊢
          obtain ⟨v', H', e, hI⟩ := hn (.sc (.slice none 0 0)) [] (.inl ⟨rfl, rfl⟩)
          exact ⟨_, _, by simp only [R0, RC, zipEnv, Nat.reduceLT, Nat.reduceAdd, Nat.reduceEqDiff, Nat.reduceLeDiff, reduceCtorEq, ↓reduceIte, ares, aresult, pr, Int.reduceEq, Int.reduceLT, Int.reduceLE, Nat.reduceSub, Nat.reduceMul, aFieldAddr, aField, aLoad, aStore, aExtract, aBox, aint, rdVar, rdCells, Value.oneCell', splice, Int.reduceNeg, zvar1, chunks, depth, some_map, Nat.reduceBEq, cf_dyn, okU, Tryz.f68, rf68, LitT.c, h1, h2, h5, e]; try rfl, hI.out⟩
  obtain ⟨v, H', e, ho⟩ := key
  exact val_acc e ho sRows_row sRows_stay
def bod13 (r : RuleT) : List ByteArray := r.body.flatMap fun l => nm11 (use13 l)
theorem flat13_len : ∀ (ls : List LitT) (m : Nat), (∀ l ∈ ls, l.path.length ≤ m) → (ls.flatMap fun l => nm11 (use13 l)).length ≤ ls.length * (m + 1)
  | [], m, _ => by simp
  | l :: ls, m, h => by
    have h1 := flat13_len ls m fun x hx => h x (List.mem_cons_of_mem _ hx)
    have h2 := nm11_len (use13 l) []
    have h3 := use13_len l
    have h4 := h l (List.mem_cons_self ..)
    have h5 : (nm11 (use13 l)).length ≤ m + 1 := by unfold nm11; rw [List.length_nil] at h2; omega
    rw [List.flatMap_cons, List.length_append, List.length_cons, Nat.add_mul]
    omega
set_option maxHeartbeats 1000000 in
theorem body13_run (r : RuleT) (hb : r.body.length ≤ 1000) (hp : ∀ l ∈ r.body, l.path.length ≤ 1000) (k : Nat) (hk : 5000000000030 ≤ k) : val Tryz.prog cf k 40 [.agg r.c] = some (mkL 1 (sRows (nm11 (bod13 r)))) := by
  obtain ⟨k, rfl⟩ : ∃ j, k = j + 1 := ⟨k - 1, by omega⟩
  have key : ∃ v H', arun Tryz.prog cf (k + 1) 40 [.agg r.c] [] = some (v, H') ∧ OutAt 9 1 H' v (sRows (nm11 (bod13 r))) := by
    rw [arun_body rfl rfl Tryz.func40 rfl (N := 22) rfl]
    have hw := wraps (n := r.body.length) (by omega)
    simp only [R0, RC, zipEnv, Nat.reduceLT, Nat.reduceAdd, Nat.reduceEqDiff, Nat.reduceLeDiff, reduceCtorEq, ↓reduceIte, ares, aresult, pr, Int.reduceEq, Int.reduceLT, Int.reduceLE, Nat.reduceSub, Nat.reduceMul, aFieldAddr, aField, aLoad, aStore, aExtract, aBox, aint, rdVar, rdCells, Value.oneCell', splice, Int.reduceNeg, zvar1, chunks, depth, some_map, Nat.reduceBEq, cf_dyn, okU, Tryz.f40, rf40, RuleT.c]
    generalize hA : aloop _ _ _ _ _ _ _ _ _ _ _ = A
    obtain ⟨s, ⟨v, H, ho, hs⟩, e1⟩ := aloop_inv2 hA [1, 3, 7, 8] (fun j s => ∃ v H, OutAt 9 1 H v (sRows ((r.body.take j).flatMap fun l => nm11 (use13 l))) ∧ s = ⟨[(1, .ro r.c), (3, v), (7, .sc (.int .i64 r.body.length)), (8, .sc (.int .i64 (j : Nat)))], H⟩) r.body.length (by omega) rfl ⟨_, _, .inl ⟨rfl, rfl⟩, by simp only [R0, RC, zipEnv, Nat.reduceLT, Nat.reduceAdd, Nat.reduceEqDiff, Nat.reduceLeDiff, reduceCtorEq, ↓reduceIte, ares, aresult, pr, Int.reduceEq, Int.reduceLT, Int.reduceLE, Nat.reduceSub, Nat.reduceMul, aFieldAddr, aField, aLoad, aStore, aExtract, aBox, aint, rdVar, rdCells, Value.oneCell', splice, Int.reduceNeg, zvar1, chunks, depth, some_map, Nat.reduceBEq, cf_dyn, okU, Tryz.f40, rf40, RuleT.c]; try rfl⟩ (fun j hj s ⟨v, H, ho, hs⟩ => by
      subst hs
      obtain ⟨x, hx⟩ : ∃ x, x = r.body[j] := ⟨_, rfl⟩
      have xj : r.body[j]? = some x := by rw [hx]; exact List.getElem?_eq_getElem hj
      have hxm := List.mem_of_getElem? xj
      have hu := uses13_run x (hp x hxm) k (by omega)
      have hfl := flat13_len (r.body.take j) 1000 fun l hl => hp l (List.mem_of_mem_take hl)
      rw [List.length_take] at hfl
      have hul := nm11_len (use13 x) []
      have hul2 := use13_len x
      have hul3 := hp x hxm
      rw [List.length_nil] at hul
      rw [List.take_succ_eq_append_getElem hj, List.flatMap_append, ← hx]
      generalize (r.body.take j).flatMap (fun l => nm11 (use13 l)) = o at *
      have hul4 : (nm11 (use13 x)).length ≤ 1001 := by unfold nm11; omega
      obtain ⟨v', H', e2, o2, _⟩ := acc_more (P := Tryz.prog) (more := sRows (nm11 (use13 x))) ro36 ho sRows_row (fun q hq => ⟨sRows_row q hq, by obtain ⟨y, _, rfl⟩ := List.mem_map.1 hq; rfl⟩) (by unfold sRows; rw [List.length_map, List.length_map]; omega) (by unfold sRows; rw [List.length_map, List.length_map]; unfold maxLen; omega)
      have e3 : sRows (o ++ [x].flatMap fun l => nm11 (use13 l)) = sRows o ++ sRows (nm11 (use13 x)) := by simp [sRows]
      simp only [LitT.c] at hu
      exact ⟨_, by simp only [R0, RC, zipEnv, Nat.reduceLT, Nat.reduceAdd, Nat.reduceEqDiff, Nat.reduceLeDiff, reduceCtorEq, ↓reduceIte, ares, aresult, pr, Int.reduceEq, Int.reduceLT, Int.reduceLE, Nat.reduceSub, Nat.reduceMul, aFieldAddr, aField, aLoad, aStore, aExtract, aBox, aint, rdVar, rdCells, Value.oneCell', splice, Int.reduceNeg, zvar1, chunks, depth, some_map, Nat.reduceBEq, cf_dyn, okU, Tryz.f40, rf40, RuleT.c, LitT.c, hj, xj, hw j hj, hu, e2]; try rfl, v', H', by rw [e3]; exact o2, rfl⟩) (fun s ⟨v, H, ho, hs⟩ => by
      subst hs
      simp only [R0, RC, zipEnv, Nat.reduceLT, Nat.reduceAdd, Nat.reduceEqDiff, Nat.reduceLeDiff, reduceCtorEq, ↓reduceIte, ares, aresult, pr, Int.reduceEq, Int.reduceLT, Int.reduceLE, Nat.reduceSub, Nat.reduceMul, aFieldAddr, aField, aLoad, aStore, aExtract, aBox, aint, rdVar, rdCells, Value.oneCell', splice, Int.reduceNeg, zvar1, chunks, depth, some_map, Nat.reduceBEq, cf_dyn, okU, Tryz.f40, rf40])
    subst hs
    rw [List.take_length] at ho
    rw [e1]
    have hfl := flat13_len r.body 1000 hp
    obtain ⟨v', H', e2, hI⟩ := names11_run (r.body.flatMap fun l => nm11 (use13 l)) (by omega) k (by omega) ho
    exact ⟨_, _, by simp only [R0, RC, zipEnv, Nat.reduceLT, Nat.reduceAdd, Nat.reduceEqDiff, Nat.reduceLeDiff, reduceCtorEq, ↓reduceIte, ares, aresult, pr, Int.reduceEq, Int.reduceLT, Int.reduceLE, Nat.reduceSub, Nat.reduceMul, aFieldAddr, aField, aLoad, aStore, aExtract, aBox, aint, rdVar, rdCells, Value.oneCell', splice, Int.reduceNeg, zvar1, chunks, depth, some_map, Nat.reduceBEq, cf_dyn, okU, Tryz.f40, rf40, RuleT.c, e2]; try rfl, hI.out⟩
  obtain ⟨v, H', e, ho⟩ := key
  exact val_acc e ho sRows_row sRows_stay
def rul13 (r : RuleT) : List ByteArray := r.head.p :: nm11 (bod13 r)
def all13 (q : ProgT) : List ByteArray := q.query.p :: q.rules.flatMap rul13
theorem rul13_len {r : RuleT} (hb : r.body.length ≤ 1000) (hp : ∀ l ∈ r.body, l.path.length ≤ 30) : (rul13 r).length ≤ 31001 := by
  have h1 := flat13_len r.body 30 hp
  have h2 := nm11_len (bod13 r) []
  unfold rul13 bod13 nm11 at *
  rw [List.length_nil] at h2
  rw [List.length_cons]
  omega
theorem all13_len : ∀ (rs : List RuleT), (∀ r ∈ rs, r.body.length ≤ 1000 ∧ ∀ l ∈ r.body, l.path.length ≤ 30) → (rs.flatMap rul13).length ≤ rs.length * 31001
  | [], _ => by simp
  | r :: rs, h => by
    have h1 := all13_len rs fun x hx => h x (List.mem_cons_of_mem _ hx)
    have h2 := rul13_len (h r (List.mem_cons_self ..)).1 (h r (List.mem_cons_self ..)).2
    rw [List.flatMap_cons, List.length_append, List.length_cons, Nat.add_mul]
    omega
set_option maxHeartbeats 2000000 in
theorem names13_run (q : ProgT) (hq : q.rules.length ≤ 100000000) (hb : ∀ r ∈ q.rules, r.body.length ≤ 1000 ∧ ∀ l ∈ r.body, l.path.length ≤ 30) (k : Nat) (hk : 5000000000040 ≤ k) : val Tryz.prog cf k 21 [.agg q.c] = some (mkL 1 (sRows (nm11 (all13 q)))) := by
  obtain ⟨k, rfl⟩ : ∃ j, k = j + 1 := ⟨k - 1, by omega⟩
  have key : ∃ v H', arun Tryz.prog cf (k + 1) 21 [.agg q.c] [] = some (v, H') ∧ OutAt 9 1 H' v (sRows (nm11 (all13 q))) := by
    rw [arun_body rfl rfl Tryz.func21 rfl (N := 35) rfl]
    have hw : ∀ j, j < q.rules.length → IntKind.i64.wrap (((j : Nat) : Int) + 1) = ((j + 1 : Nat) : Int) := fun j hj => wrap_succ (by omega)
    simp only [R0, RC, zipEnv, Nat.reduceLT, Nat.reduceAdd, Nat.reduceEqDiff, Nat.reduceLeDiff, reduceCtorEq, ↓reduceIte, ares, aresult, pr, Int.reduceEq, Int.reduceLT, Int.reduceLE, Nat.reduceSub, Nat.reduceMul, aFieldAddr, aField, aLoad, aStore, aExtract, aBox, aint, rdVar, rdCells, Value.oneCell', splice, Int.reduceNeg, zvar1, chunks, depth, some_map, Nat.reduceBEq, cf_dyn, okU, Tryz.f21, rf21, ProgT.c]
    generalize hA : aloop _ _ _ _ _ _ _ _ _ _ _ = A
    obtain ⟨s, ⟨v, H, ho, hs⟩, e1⟩ := aloop_inv2 hA [1, 3, 11, 12] (fun j s => ∃ v H, OutAt 9 1 H v (sRows (q.query.p :: (q.rules.take j).flatMap rul13)) ∧ s = ⟨[(1, .ro q.c), (3, v), (11, .sc (.int .i64 q.rules.length)), (12, .sc (.int .i64 (j : Nat)))], H⟩) q.rules.length (by omega) rfl ⟨.own 0 0 1 1 0, [⟨9, 1, 0, true, [.sc (.string q.query.p)], .cells⟩], .inr ⟨by simp [sRows], 0, 0, rfl, rfl⟩, by simp only [R0, RC, zipEnv, Nat.reduceLT, Nat.reduceAdd, Nat.reduceEqDiff, Nat.reduceLeDiff, reduceCtorEq, ↓reduceIte, ares, aresult, pr, Int.reduceEq, Int.reduceLT, Int.reduceLE, Nat.reduceSub, Nat.reduceMul, aFieldAddr, aField, aLoad, aStore, aExtract, aBox, aint, rdVar, rdCells, Value.oneCell', splice, Int.reduceNeg, zvar1, chunks, depth, some_map, Nat.reduceBEq, cf_dyn, okU, Tryz.f21, rf21, ProgT.c]; try rfl⟩ (fun j hj s ⟨v, H, ho, hs⟩ => by
      subst hs
      obtain ⟨x, hx⟩ : ∃ x, x = q.rules[j] := ⟨_, rfl⟩
      have xj : q.rules[j]? = some x := by rw [hx]; exact List.getElem?_eq_getElem hj
      have hxm := List.mem_of_getElem? xj
      have hB := body13_run x (hb x hxm).1 (fun l hl => Nat.le_trans ((hb x hxm).2 l hl) (by omega)) k (by omega)
      have hfl := all13_len (q.rules.take j) fun r hr => hb r (List.mem_of_mem_take hr)
      rw [List.length_take] at hfl
      have hr13 := rul13_len (hb x hxm).1 (hb x hxm).2
      rw [List.take_succ_eq_append_getElem hj, List.flatMap_append, ← hx]
      generalize hrs : (q.rules.take j).flatMap rul13 = rs at *
      have hrow1 : ∀ l : List ByteArray, ∀ w ∈ sRows l, w.length = 1 ∧ w.all one = true := fun l w hw => ⟨sRows_row w hw, by obtain ⟨y, _, rfl⟩ := List.mem_map.1 hw; rfl⟩
      have hbl : (nm11 (bod13 x)).length ≤ 31000 := by unfold rul13 at hr13; rw [List.length_cons] at hr13; omega
      have ho2 : OutAt 9 1 (H ++ [⟨9, 1, 0, true, [.sc (.string x.head.p)], .cells⟩]) v (sRows (q.query.p :: rs)) := by
        rcases ho with h | ⟨h1, b, ver, h2, h3⟩
        · exact .inl h
        · exact .inr ⟨h1, b, ver, h2, by rw [List.getElem?_append_left (List.getElem?_eq_some_iff.1 h3).1]; exact h3⟩
      obtain ⟨v2, H2, e2, o2, _⟩ := acc_more (P := Tryz.prog) (more := sRows [x.head.p]) ro36 ho2 sRows_row (hrow1 _) (by unfold sRows; rw [List.length_map, List.length_map, List.length_cons, List.length_singleton]; omega) (by unfold sRows; rw [List.length_map, List.length_map, List.length_cons, List.length_singleton]; unfold maxLen; omega)
      have hel : ∀ z, elems (H ++ [⟨9, 1, 0, true, [.sc (.string x.head.p)], .cells⟩]) (.own H.length 0 1 1 0) z = elems (H ++ [⟨9, 1, 0, true, [.sc (.string x.head.p)], .cells⟩]) (mkL 1 (sRows [x.head.p])) z := fun z => by
        simp only [elems, mkL]
        rw [blkAt_some' (List.getElem?_concat_length) rfl rfl]
        by_cases hz : 1 = z
        · subst hz; rfl
        · simp [hz]
      rw [← app_sameM hel] at e2
      rw [← List.map_append] at o2
      obtain ⟨v3, H3, e3, o3, _⟩ := acc_more (P := Tryz.prog) (more := sRows (nm11 (bod13 x))) ro36 o2 sRows_row (hrow1 _) (by rw [List.length_map, List.length_append, List.length_cons, List.length_singleton, List.length_map]; omega) (by rw [List.length_map, List.length_append, List.length_cons, List.length_singleton, List.length_map]; unfold maxLen; omega)
      have e4 : sRows (q.query.p :: (rs ++ [x].flatMap rul13)) = List.map sC (q.query.p :: rs ++ [x.head.p]) ++ sRows (nm11 (bod13 x)) := by simp [sRows, rul13]
      simp only [RuleT.c] at hB
      exact ⟨_, by
        simp only [R0, RC, zipEnv, Nat.reduceLT, Nat.reduceAdd, Nat.reduceEqDiff, Nat.reduceLeDiff, reduceCtorEq, ↓reduceIte, ares, aresult, pr, Int.reduceEq, Int.reduceLT, Int.reduceLE, Nat.reduceSub, Nat.reduceMul, aFieldAddr, aField, aLoad, aStore, aExtract, aBox, aint, rdVar, rdCells, Value.oneCell', splice, Int.reduceNeg, zvar1, chunks, depth, some_map, Nat.reduceBEq, cf_dyn, okU, Tryz.f21, rf21, R1, ProgT.c, RuleT.c, hj, xj, hw j hj, hB, e2, e3]
        rw [if_pos]
        case hc =>
          generalize bitOf _ _ = u1
          generalize bitOf _ _ = u2
          obtain ⟨a1, b1⟩ := u1
          obtain ⟨a2, b2⟩ := u2
          cases a1 <;> cases b1 <;> cases a2 <;> cases b2 <;> kernel_rfl
        simp only [R0, RC, zipEnv, Nat.reduceLT, Nat.reduceAdd, Nat.reduceEqDiff, Nat.reduceLeDiff, reduceCtorEq, ↓reduceIte, ares, aresult, pr, Int.reduceEq, Int.reduceLT, Int.reduceLE, Nat.reduceSub, Nat.reduceMul, aFieldAddr, aField, aLoad, aStore, aExtract, aBox, aint, rdVar, rdCells, Value.oneCell', splice, Int.reduceNeg, zvar1, chunks, depth, some_map, Nat.reduceBEq, cf_dyn, okU, Tryz.f21, rf21, ProgT.c, RuleT.c, hj, xj, hw j hj, hB, e2, e3]
        try rfl, v3, H3, by rw [e4]; exact o3, rfl⟩) (fun s ⟨v, H, ho, hs⟩ => by
      subst hs
      simp only [R0, RC, zipEnv, Nat.reduceLT, Nat.reduceAdd, Nat.reduceEqDiff, Nat.reduceLeDiff, reduceCtorEq, ↓reduceIte, ares, aresult, pr, Int.reduceEq, Int.reduceLT, Int.reduceLE, Nat.reduceSub, Nat.reduceMul, aFieldAddr, aField, aLoad, aStore, aExtract, aBox, aint, rdVar, rdCells, Value.oneCell', splice, Int.reduceNeg, zvar1, chunks, depth, some_map, Nat.reduceBEq, cf_dyn, okU, Tryz.f21, rf21])
    subst hs
    rw [List.take_length] at ho
    rw [e1]
    have hfl := all13_len q.rules hb
    obtain ⟨v', H', e2, hI⟩ := names11_run (all13 q) (by unfold all13; rw [List.length_cons]; omega) k (by omega) ho
    exact ⟨_, _, by simp only [R0, RC, zipEnv, Nat.reduceLT, Nat.reduceAdd, Nat.reduceEqDiff, Nat.reduceLeDiff, reduceCtorEq, ↓reduceIte, ares, aresult, pr, Int.reduceEq, Int.reduceLT, Int.reduceLE, Nat.reduceSub, Nat.reduceMul, aFieldAddr, aField, aLoad, aStore, aExtract, aBox, aint, rdVar, rdCells, Value.oneCell', splice, Int.reduceNeg, zvar1, chunks, depth, some_map, Nat.reduceBEq, cf_dyn, okU, Tryz.f21, rf21, ProgT.c, e2]; try rfl, hI.out⟩
  obtain ⟨v, H', e, ho⟩ := key
  exact val_acc e ho sRows_row sRows_stay
end Go.Proofs.YtpgipdajinkdgaaGreatA
