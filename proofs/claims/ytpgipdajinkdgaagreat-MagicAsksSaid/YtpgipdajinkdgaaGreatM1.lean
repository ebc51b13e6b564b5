/- A part of the proof of MagicAsks: functions of the program, run by the evaluator. -/

/- strings.HasPrefix, magic.Prefix. -/
import Derived.Test.YtpgipdajinkdgaaGreatN3
import Derived.Test.YtpgipdajinkdgaaGreatC
namespace Go.Proofs.YtpgipdajinkdgaaGreatA
open Go Go.RowKit
set_option linter.all false
set_option linter.unusedSectionVars false
set_option linter.constructorNameAsVariable false
set_option linter.unusedVariables false
set_option linter.unusedSimpArgs false
def preB (n s : ByteArray) : Bool := decide (s.size ≤ n.size) && decide (n.extract 0 s.size = s)
theorem slStr {H : List Blk} {ρ : Operand → AV} {o : Oper} {s : ByteArray} {lo hi : Option AV} : aSliceG Tryz.prog H ρ o 9 (.sc (.string s)) lo hi = match bnd hi s.size s.size with
    | some h => (match bnd lo 0 h with
      | some l => some (.val (.sc (.string (s.extract l h))))
      | none => aop Tryz.prog H ρ o)
    | none => aop Tryz.prog H ρ o := slG_str Tryz.underlying9
theorem hasPre_run (n s : ByteArray) (k : Nat) (hk : 1 ≤ k) : val Tryz.prog cf k 67 [.sc (.string n), .sc (.string s)] = some (.sc (.bool (preB n s))) := by
  obtain ⟨k, rfl⟩ : ∃ j, k = j + 1 := ⟨k - 1, by omega⟩
  refine val_of (r := .sc (.bool (preB n s))) (H1 := []) ?_ rfl rfl
  rw [arun_body rfl rfl Tryz.func67 rfl (N := 18) rfl]
  unfold preB
  by_cases h : s.size ≤ n.size
  · simp only [R0, RC, zipEnv, Nat.reduceLT, Nat.reduceAdd, Nat.reduceEqDiff, Nat.reduceLeDiff, reduceCtorEq, ↓reduceIte, ares, aresult, pr, Int.reduceEq, Int.reduceLT, Int.reduceLE, Nat.reduceSub, Nat.reduceMul, aFieldAddr, aField, aLoad, aStore, aExtract, aBox, aint, rdVar, rdCells, Value.oneCell', splice, Int.reduceNeg, zvar1, chunks, depth, some_map, Nat.reduceBEq, cf_dyn, okU, Tryz.f67, rf67, slStr, Int.ofNat_le, h]
  · simp only [R0, RC, zipEnv, Nat.reduceLT, Nat.reduceAdd, Nat.reduceEqDiff, Nat.reduceLeDiff, reduceCtorEq, ↓reduceIte, ares, aresult, pr, Int.reduceEq, Int.reduceLT, Int.reduceLE, Nat.reduceSub, Nat.reduceMul, aFieldAddr, aField, aLoad, aStore, aExtract, aBox, aint, rdVar, rdCells, Value.oneCell', splice, Int.reduceNeg, zvar1, chunks, depth, some_map, Nat.reduceBEq, cf_dyn, okU, Tryz.f67, rf67, slStr, Int.ofNat_le, h]
theorem hasPre2_run (n s : ByteArray) (k : Nat) (hk : 2 ≤ k) : val Tryz.prog cf k 38 [.sc (.string n), .sc (.string s)] = some (.sc (.bool (preB n s))) := by
  obtain ⟨k, rfl⟩ : ∃ j, k = j + 1 := ⟨k - 1, by omega⟩
  refine val_of (r := .sc (.bool (preB n s))) (H1 := []) ?_ rfl rfl
  have h := hasPre_run n s k (by omega)
  rw [arun_body rfl rfl Tryz.func38 rfl (N := 8) rfl]
  simp only [R0, RC, zipEnv, Nat.reduceLT, Nat.reduceAdd, Nat.reduceEqDiff, Nat.reduceLeDiff, reduceCtorEq, ↓reduceIte, ares, aresult, pr, Int.reduceEq, Int.reduceLT, Int.reduceLE, Nat.reduceSub, Nat.reduceMul, aFieldAddr, aField, aLoad, aStore, aExtract, aBox, aint, rdVar, rdCells, Value.oneCell', splice, Int.reduceNeg, zvar1, chunks, depth, some_map, Nat.reduceBEq, cf_dyn, okU, Tryz.f38, rf38, h]
theorem pre1_run (n s : ByteArray) (k : Nat) (hk : 3 ≤ k) : val Tryz.prog cf k 37 [.sc (.string n), .ro [.sc (.string s)]] = some (.sc (.bool (preB n s))) := by
  obtain ⟨k, rfl⟩ : ∃ j, k = j + 1 := ⟨k - 1, by omega⟩
  refine val_of (r := .sc (.bool (preB n s))) (H1 := []) ?_ rfl rfl
  have h := hasPre2_run n s k (by omega)
  rw [arun_body rfl rfl Tryz.func37 rfl (N := 7) rfl]
  simp only [R0, RC, zipEnv, Nat.reduceLT, Nat.reduceAdd, Nat.reduceEqDiff, Nat.reduceLeDiff, reduceCtorEq, ↓reduceIte, ares, aresult, pr, Int.reduceEq, Int.reduceLT, Int.reduceLE, Nat.reduceSub, Nat.reduceMul, aFieldAddr, aField, aLoad, aStore, aExtract, aBox, aint, rdVar, rdCells, Value.oneCell', splice, Int.reduceNeg, zvar1, chunks, depth, some_map, Nat.reduceBEq, cf_dyn, okU, Tryz.f37, rf37, h]
theorem idxS_gen {g : FuncId} {caps : List AV} (L : List ByteArray) (q : ByteArray → Bool) (hl : L.length ≤ 100000) (k : Nat) (hk : 100005 ≤ k)
    (hc : ∀ s ∈ L, ∀ strict, callR Tryz.prog (acall cf.mode strict (arun Tryz.prog cf (k - 1))) [] (.fn g caps) [.sc (.string s)] = some (.sc (.bool (q s)), [])) :
    val Tryz.prog cf k 66 [mkL 1 (sRows L), .fn g caps] = some (.sc (.int .i64 (idxOf L q))) := by
  obtain ⟨k, rfl⟩ : ∃ j, k = j + 1 := ⟨k - 1, by omega⟩
  rw [Nat.add_sub_cancel] at hc
  refine val_of (r := .sc (.int .i64 (idxOf L q))) (H1 := []) ?_ rfl rfl
  rw [arun_body rfl rfl Tryz.func66 rfl (N := 19) rfl]
  have hw := wraps (n := L.length) (by omega)
  simp only [R0, RC, zipEnv, Nat.reduceLT, Nat.reduceAdd, Nat.reduceEqDiff, Nat.reduceLeDiff, reduceCtorEq, ↓reduceIte, ares, aresult, pr, Int.reduceEq, Int.reduceLT, Int.reduceLE, Nat.reduceSub, Nat.reduceMul, aFieldAddr, aField, aLoad, aStore, aExtract, aBox, aint, rdVar, rdCells, Value.oneCell', splice, Int.reduceNeg, zvar1, chunks, depth, some_map, Nat.reduceBEq, cf_dyn, okU, Tryz.f66, rf66]
  generalize hA : aloop _ _ _ _ _ _ _ _ _ _ _ = A
  rcases aloop_list hA [0, 1, 7, 8] (fun j => ⟨[(0, mkL 1 (sRows L)), (1, .fn g caps), (7, .sc (.int .i64 L.length)), (8, .sc (.int .i64 (j : Nat)))], []⟩) L q (by omega) rfl rfl (fun j x hj hx hqx => by
      simp only [R0, RC, zipEnv, Nat.reduceLT, Nat.reduceAdd, Nat.reduceEqDiff, Nat.reduceLeDiff, reduceCtorEq, ↓reduceIte, ares, aresult, pr, Int.reduceEq, Int.reduceLT, Int.reduceLE, Nat.reduceSub, Nat.reduceMul, aFieldAddr, aField, aLoad, aStore, aExtract, aBox, aint, rdVar, rdCells, Value.oneCell', splice, Int.reduceNeg, zvar1, chunks, depth, some_map, Nat.reduceBEq, cf_dyn, okU, Tryz.f66, rf66, sC, hj, hx, hw j hj, hc x (List.mem_of_getElem? hx), hqx]) (fun j x hj hx hqx => by
      simp only [R0, RC, zipEnv, Nat.reduceLT, Nat.reduceAdd, Nat.reduceEqDiff, Nat.reduceLeDiff, reduceCtorEq, ↓reduceIte, ares, aresult, pr, Int.reduceEq, Int.reduceLT, Int.reduceLE, Nat.reduceSub, Nat.reduceMul, aFieldAddr, aField, aLoad, aStore, aExtract, aBox, aint, rdVar, rdCells, Value.oneCell', splice, Int.reduceNeg, zvar1, chunks, depth, some_map, Nat.reduceBEq, cf_dyn, okU, Tryz.f66, rf66, sC, hj, hx, hw j hj, hc x (List.mem_of_getElem? hx), hqx]) (by simp only [R0, RC, zipEnv, Nat.reduceLT, Nat.reduceAdd, Nat.reduceEqDiff, Nat.reduceLeDiff, reduceCtorEq, ↓reduceIte, ares, aresult, pr, Int.reduceEq, Int.reduceLT, Int.reduceLE, Nat.reduceSub, Nat.reduceMul, aFieldAddr, aField, aLoad, aStore, aExtract, aBox, aint, rdVar, rdCells, Value.oneCell', splice, Int.reduceNeg, zvar1, chunks, depth, some_map, Nat.reduceBEq, cf_dyn, okU, Tryz.f66, rf66]) with ⟨h, e⟩ | ⟨j, x, hj, hx, hqx, h, e⟩
  · rw [e, idxOf_none h]
    simp only [R0, RC, zipEnv, Nat.reduceLT, Nat.reduceAdd, Nat.reduceEqDiff, Nat.reduceLeDiff, reduceCtorEq, ↓reduceIte, ares, aresult, pr, Int.reduceEq, Int.reduceLT, Int.reduceLE, Nat.reduceSub, Nat.reduceMul, aFieldAddr, aField, aLoad, aStore, aExtract, aBox, aint, rdVar, rdCells, Value.oneCell', splice, Int.reduceNeg, zvar1, chunks, depth, some_map, Nat.reduceBEq, cf_dyn, okU, Tryz.f66, rf66]
  · rw [e, idxOf_some h]
    simp only [R0, RC, zipEnv, Nat.reduceLT, Nat.reduceAdd, Nat.reduceEqDiff, Nat.reduceLeDiff, reduceCtorEq, ↓reduceIte, ares, aresult, pr, Int.reduceEq, Int.reduceLT, Int.reduceLE, Nat.reduceSub, Nat.reduceMul, aFieldAddr, aField, aLoad, aStore, aExtract, aBox, aint, rdVar, rdCells, Value.oneCell', splice, Int.reduceNeg, zvar1, chunks, depth, some_map, Nat.reduceBEq, cf_dyn, okU, Tryz.f66, rf66, sC, hj, hx, hw j hj, hc x (List.mem_of_getElem? hx), hqx]
theorem anyPre_run (L : List ByteArray) (s : ByteArray) (hl : L.length ≤ 100000) (k : Nat) (hk : 100010 ≤ k) : val Tryz.prog cf k 36 [mkL 1 (sRows L), .fn 37 [.ro [.sc (.string s)]]] = some (.sc (.bool (L.any fun n => preB n s))) := by
  obtain ⟨k, rfl⟩ : ∃ j, k = j + 1 := ⟨k - 1, by omega⟩
  refine val_of (r := .sc (.bool (L.any fun n => preB n s))) (H1 := []) ?_ rfl rfl
  have h := idxS_gen (g := 37) (caps := [.ro [.sc (.string s)]]) L (fun n => preB n s) hl k (by omega) (fun n _ strict => by
    have h := pre1_run n s (k - 1) (by omega)
    have hr : amap (rb [] depth) ([.sc (.string n)] ++ [.ro [.sc (.string s)]]) = some [.sc (.string n), .ro [.sc (.string s)]] := rfl
    rw [cl37, hr]
    simp only [Option.bind_some, h, Option.map_some])
  rw [arun_body rfl rfl Tryz.func36 rfl (N := 9) rfl]
  simp only [R0, RC, zipEnv, Nat.reduceLT, Nat.reduceAdd, Nat.reduceEqDiff, Nat.reduceLeDiff, reduceCtorEq, ↓reduceIte, ares, aresult, pr, Int.reduceEq, Int.reduceLT, Int.reduceLE, Nat.reduceSub, Nat.reduceMul, aFieldAddr, aField, aLoad, aStore, aExtract, aBox, aint, rdVar, rdCells, Value.oneCell', splice, Int.reduceNeg, zvar1, chunks, depth, some_map, Nat.reduceBEq, cf_dyn, okU, Tryz.f36, rf36, h, idx_any]
def preS : Nat → ByteArray
  | 0 => ⟨#[97, 115, 107, 95]⟩
  | j + 1 => preS j ++ ⟨#[95]⟩
theorem preS_size : ∀ j, (preS j).size = j + 4
  | 0 => rfl
  | j + 1 => by
    rw [preS, ByteArray.size_append, preS_size j]
    have : (⟨#[95]⟩ : ByteArray).size = 1 := rfl
    omega
def noPre (names : List ByteArray) (j : Nat) : Bool := !names.any fun n => preB n (preS j)
theorem noPre_of {names : List ByteArray} {B j : Nat} (h : ∀ n ∈ names, n.size ≤ B) (hj : B ≤ j) : noPre names j = true := by
  unfold noPre
  rw [Bool.not_eq_true', List.any_eq_false]
  intro n hn
  unfold preB
  have := h n hn
  rw [preS_size]
  simp only [Bool.and_eq_true, decide_eq_true_eq, not_and]
  omega
theorem least_of {q : Nat → Bool} : ∀ m, q m = true → ∃ j, j ≤ m ∧ q j = true ∧ ∀ i, i < j → q i = false
  | 0, h => ⟨0, Nat.le_refl _, h, fun i hi => by omega⟩
  | m + 1, h => by
    by_cases hx : ∃ i, i ≤ m ∧ q i = true
    · obtain ⟨i, hi, hq⟩ := hx
      obtain ⟨j, h1, h2, h3⟩ := least_of' i hq
      exact ⟨j, by omega, h2, h3⟩
    · refine ⟨m + 1, Nat.le_refl _, h, fun i hi => ?_⟩
      cases hq : q i with
      | false => rfl
      | true => exact absurd ⟨i, by omega, hq⟩ hx
where
  least_of' {q : Nat → Bool} (m : Nat) (h : q m = true) : ∃ j, j ≤ m ∧ q j = true ∧ ∀ i, i < j → q i = false := by
    induction m using Nat.strongRecOn with
    | _ m ih =>
      by_cases hx : ∃ i, i < m ∧ q i = true
      · obtain ⟨i, hi, hq⟩ := hx
        obtain ⟨j, h1, h2, h3⟩ := ih i hi hq
        exact ⟨j, by omega, h2, h3⟩
      · refine ⟨m, Nat.le_refl _, h, fun i hi => ?_⟩
        cases hq : q i with
        | false => rfl
        | true => exact absurd ⟨i, hi, hq⟩ hx
theorem sizes_ex (names : List ByteArray) : ∃ B, ∀ n ∈ names, n.size ≤ B := by
  induction names with
  | nil => exact ⟨0, fun n h => by cases h⟩
  | cons x l ih =>
    obtain ⟨B, h⟩ := ih
    refine ⟨max x.size B, fun n hn => ?_⟩
    rcases List.mem_cons.1 hn with rfl | hn
    · exact Nat.le_max_left _ _
    · exact Nat.le_trans (h n hn) (Nat.le_max_right _ _)
theorem pre_ex (names : List ByteArray) : ∃ j, noPre names j = true ∧ ∀ i, i < j → noPre names i = false := by
  obtain ⟨B, h⟩ := sizes_ex names
  obtain ⟨j, _, h2, h3⟩ := least_of B (noPre_of h (Nat.le_refl _))
  exact ⟨j, h2, h3⟩
noncomputable def pfxJ (names : List ByteArray) : Nat := Classical.choose (pre_ex names)
theorem pfxJ_no (names : List ByteArray) : noPre names (pfxJ names) = true := (Classical.choose_spec (pre_ex names)).1
theorem pfxJ_lt (names : List ByteArray) {i : Nat} (h : i < pfxJ names) : noPre names i = false := (Classical.choose_spec (pre_ex names)).2 i h
theorem pfxJ_le {names : List ByteArray} {B : Nat} (h : ∀ n ∈ names, n.size ≤ B) : pfxJ names ≤ B := by
  rcases Nat.lt_or_ge B (pfxJ names) with h1 | h1
  · have := pfxJ_lt names h1
    rw [noPre_of h (Nat.le_refl _)] at this
    cases this
  · exact h1
noncomputable def pfxT (p : ProgT) : ByteArray := preS (pfxJ (Ord.sorted (allN p)))
def bigB : Nat := 1000000000000000
theorem prefix_run (p : ProgT) (hR : p.rules.length ≤ 1000) (hB : ∀ r ∈ p.rules, r.body.length ≤ 1000 ∧ ∀ l ∈ r.body, l.path.length ≤ 900) (hN : (allN p).length ≤ 100000) (hS : ∀ n ∈ allN p, n.size ≤ bigB) (k : Nat) (hk : bigB + 1000000 ≤ k) :
    val Tryz.prog cf k 17 [.agg p.c] = some (.sc (.string (pfxT p))) := by
  obtain ⟨k, rfl⟩ : ∃ j, k = j + 1 := ⟨k - 1, by omega⟩
  have hn := names_run p hR hB (by omega) k (by omega)
  have hnl : (Ord.sorted (allN p)).length ≤ 100000 := Nat.le_trans (Ord.nsort_len_le _) hN
  have hSn : ∀ n ∈ Ord.sorted (allN p), n.size ≤ bigB := fun n h => hS n ((Ord.nsort_mem Ord.linS _ _).1 h)
  unfold pfxT
  simp only [ProgT.c] at hn
  generalize Ord.sorted (allN p) = names at *
  have hj := pfxJ_le hSn
  have key : ∃ H', arun Tryz.prog cf (k + 1) 17 [.agg p.c] [] = some (.sc (.string (preS (pfxJ names))), H') := by
    rw [arun_body rfl rfl Tryz.func17 rfl (N := 13) rfl]
    have e0 : preS 0 = ⟨#[97, 115, 107, 95]⟩ := rfl
    simp only [R0, RC, zipEnv, Nat.reduceLT, Nat.reduceAdd, Nat.reduceEqDiff, Nat.reduceLeDiff, reduceCtorEq, ↓reduceIte, ares, aresult, pr, Int.reduceEq, Int.reduceLT, Int.reduceLE, Nat.reduceSub, Nat.reduceMul, aFieldAddr, aField, aLoad, aStore, aExtract, aBox, aint, rdVar, rdCells, Value.oneCell', splice, Int.reduceNeg, zvar1, chunks, depth, some_map, Nat.reduceBEq, cf_dyn, okU, Tryz.f17, rf17, ProgT.c, hn]
    generalize hA : aloop _ _ _ _ _ _ _ _ _ _ _ = A
    have hany : ∀ j, val Tryz.prog cf k 36 [mkL 1 (sRows names), .fn 37 [.ro [.sc (.string (preS j))]]] = some (.sc (.bool (!noPre names j))) := fun j => by
      rw [anyPre_run names (preS j) hnl k (by omega)]
      unfold noPre
      rw [Bool.not_not]
    have hrb : ∀ j, rb [⟨9, 1, 0, false, [.sc (.string (preS j))], .cells⟩] 39 (.ptr 0 0 0) = some (.ro [.sc (.string (preS j))]) := fun _ => rfl
    rcases aloop_nat hA [3, 4] (fun j => ⟨[(3, mkL 1 (sRows names)), (4, .ptr 0 0 0)], [⟨9, 1, 0, false, [.sc (.string (preS j))], .cells⟩]⟩) (pfxJ names) (fun _ => false) (by omega) rfl (by simp only [R0, RC, zipEnv, Nat.reduceLT, Nat.reduceAdd, Nat.reduceEqDiff, Nat.reduceLeDiff, reduceCtorEq, ↓reduceIte, ares, aresult, pr, Int.reduceEq, Int.reduceLT, Int.reduceLE, Nat.reduceSub, Nat.reduceMul, aFieldAddr, aField, aLoad, aStore, aExtract, aBox, aint, rdVar, rdCells, Value.oneCell', splice, Int.reduceNeg, zvar1, chunks, depth, some_map, Nat.reduceBEq, cf_dyn, okU, Tryz.f17, rf17, e0]; try rfl) (fun j hj _ => by
        have hq := pfxJ_lt names hj
        have hadd : (preS j).size + (⟨#[95]⟩ : ByteArray).size ≤ maxLen := by
          rw [preS_size]
          have : (⟨#[95]⟩ : ByteArray).size = 1 := rfl
          unfold maxLen
          unfold bigB at *
          omega
        have h := hany j
        rw [hq] at h
        have e1 : preS (j + 1) = preS j ++ ⟨#[95]⟩ := rfl
        simp only [R0, RC, zipEnv, Nat.reduceLT, Nat.reduceAdd, Nat.reduceEqDiff, Nat.reduceLeDiff, reduceCtorEq, ↓reduceIte, ares, aresult, pr, Int.reduceEq, Int.reduceLT, Int.reduceLE, Nat.reduceSub, Nat.reduceMul, aFieldAddr, aField, aLoad, aStore, aExtract, aBox, aint, rdVar, rdCells, Value.oneCell', splice, Int.reduceNeg, zvar1, chunks, depth, some_map, Nat.reduceBEq, cf_dyn, okU, Tryz.f17, rf17, hrb, h, aBin_addS hadd, e1]) (fun j _ hq => by cases hq) (by
        have h := hany (pfxJ names)
        rw [pfxJ_no] at h
        simp only [R0, RC, zipEnv, Nat.reduceLT, Nat.reduceAdd, Nat.reduceEqDiff, Nat.reduceLeDiff, reduceCtorEq, ↓reduceIte, ares, aresult, pr, Int.reduceEq, Int.reduceLT, Int.reduceLE, Nat.reduceSub, Nat.reduceMul, aFieldAddr, aField, aLoad, aStore, aExtract, aBox, aint, rdVar, rdCells, Value.oneCell', splice, Int.reduceNeg, zvar1, chunks, depth, some_map, Nat.reduceBEq, cf_dyn, okU, Tryz.f17, rf17, hrb, h]) with ⟨_, e⟩ | ⟨j, _, hq, _⟩
    · have h := hany (pfxJ names)
      rw [pfxJ_no] at h
      rw [e]
      exact ⟨_, by simp only [R0, RC, zipEnv, Nat.reduceLT, Nat.reduceAdd, Nat.reduceEqDiff, Nat.reduceLeDiff, reduceCtorEq, ↓reduceIte, ares, aresult, pr, Int.reduceEq, Int.reduceLT, Int.reduceLE, Nat.reduceSub, Nat.reduceMul, aFieldAddr, aField, aLoad, aStore, aExtract, aBox, aint, rdVar, rdCells, Value.oneCell', splice, Int.reduceNeg, zvar1, chunks, depth, some_map, Nat.reduceBEq, cf_dyn, okU, Tryz.f17, rf17, hrb, h]; rfl⟩
    · cases hq
  obtain ⟨H', e⟩ := key
  exact val_of e rfl rfl
end Go.Proofs.YtpgipdajinkdgaaGreatA
