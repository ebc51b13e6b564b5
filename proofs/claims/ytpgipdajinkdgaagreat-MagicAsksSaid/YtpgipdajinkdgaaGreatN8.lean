/- A part of the proof of MagicAsks: functions of the program, run by the evaluator. -/

/- strata.Needs. -/
import Derived.Test.YtpgipdajinkdgaaGreatN7
namespace Go.Proofs.YtpgipdajinkdgaaGreatA
open Go Go.RowKit
set_option linter.all false
set_option linter.unusedSectionVars false
set_option linter.constructorNameAsVariable false
set_option linter.unusedVariables false
set_option linter.unusedSimpArgs false
theorem dedF_up : ∀ (l acc : List I2), Ord.Up ltP2 acc → (∀ x ∈ acc, ∀ y ∈ l, ltP2 y x = false) → l.Pairwise (fun x y => ltP2 y x = false) → Ord.Up ltP2 (l.foldl dedStep acc) ∧ ∀ z, z ∈ l.foldl dedStep acc ↔ z ∈ acc ∨ z ∈ l
  | [], acc, h1, _, _ => ⟨h1, fun z => by simp⟩
  | x :: l, acc, h1, h2, h3 => by
    simp only [List.foldl_cons]
    rw [List.pairwise_cons] at h3
    by_cases hx : acc.getLast? = some x
    · have e : dedStep acc x = acc := by unfold dedStep; rw [if_pos hx]
      rw [e]
      obtain ⟨u, m⟩ := dedF_up l acc h1 (fun a ha y hy => h2 a ha y (by simp [hy])) h3.2
      refine ⟨u, fun z => (m z).trans ?_⟩
      have hm : x ∈ acc := List.mem_of_getLast? hx
      simp only [List.mem_cons]
      constructor
      · rintro (h | h)
        · exact .inl h
        · exact .inr (.inr h)
      · rintro (h | rfl | h)
        · exact .inl h
        · exact .inl hm
        · exact .inr h
    · have e : dedStep acc x = acc ++ [x] := by unfold dedStep; rw [if_neg hx]
      rw [e]
      have hlt : ∀ a ∈ acc, ltP2 a x = true := by
        intro a ha
        have hn := h2 a ha x (by simp)
        have hne : a ≠ x := by
          rintro rfl
          rcases List.eq_nil_or_concat acc with rfl | ⟨m, z, rfl⟩
          · cases ha
          · rw [List.concat_eq_append] at ha hx h1 h2
            have hz : z ≠ a := fun hz => hx (by simp [hz])
            rw [List.mem_append, List.mem_singleton] at ha
            rcases ha with ha | ha
            · have := (List.pairwise_append.1 h1).2.2 a ha z (by simp)
              rw [h2 z (by simp) a (by simp)] at this
              cases this
            · exact hz ha.symm
        cases hax : ltP2 a x with
        | true => rfl
        | false => exact absurd (linP2.tot a x hax hn) hne
      obtain ⟨u, m⟩ := dedF_up l (acc ++ [x]) (List.pairwise_append.2 ⟨h1, by simp, fun a ha b hb => by rw [List.mem_singleton] at hb; subst hb; exact hlt a ha⟩) (fun a ha y hy => by
        rw [List.mem_append, List.mem_singleton] at ha
        rcases ha with ha | rfl
        · exact h2 a ha y (by simp [hy])
        · exact h3.1 y hy) h3.2
      refine ⟨u, fun z => (m z).trans ?_⟩
      simp only [List.mem_append, List.mem_singleton, List.mem_cons, List.not_mem_nil, or_false, or_assoc]
theorem ded_sort (l : List I2) : dedP (sortI2 l) = Ord.nsort ltP2 l := by
  obtain ⟨u, m⟩ := dedF_up (sortI2 l) [] List.Pairwise.nil (fun x h => by cases h) (Ord.isort_ord linP2 l)
  refine Ord.up_eq linP2 _ _ u (Ord.nsort_up linP2 l) fun z => ?_
  rw [show z ∈ dedP (sortI2 l) ↔ z ∈ List.foldl dedStep [] (sortI2 l) from Iff.rfl, m z, Ord.nsort_mem linP2 l z]
  simp only [List.not_mem_nil, false_or]
  exact (Ord.isort_perm l).mem_iff
theorem compact_run (H : List Blk) (b ver : Nat) (l : List I2) (hb : b < H.length) (hl : l.length ≤ 100000) (k : Nat) (hk : 100010 ≤ k) :
    ∃ rest, arun Tryz.prog cf (k + 1) 82 [.own b 0 l.length 2 ver] (HP H b ver l) = some (.own b 0 (dedP l).length 2 ver, HP H b ver (dedP l ++ rest)) := by
  by_cases h : ∃ j, ∃ h : j + 1 < l.length, l[j + 1] = l[j]
  · obtain ⟨j0, ⟨hj, hd⟩, hmin⟩ : ∃ j, (∃ h : j + 1 < l.length, l[j + 1] = l[j]) ∧ ∀ i, i < j → ¬ ∃ h : i + 1 < l.length, l[i + 1] = l[i] := by
      obtain ⟨j, hj⟩ := h
      induction j using Nat.strongRecOn with
      | _ j ih =>
        by_cases hs : ∃ i, i < j ∧ ∃ h : i + 1 < l.length, l[i + 1] = l[i]
        · obtain ⟨i, hi, hp⟩ := hs
          exact ih i hi hp
        · exact ⟨j, hj, fun i hi hp => hs ⟨i, hi, hp⟩⟩
    exact ⟨_, compact_some H b ver l hb hl j0 hj hd (fun j hj' e => hmin j hj' ⟨by omega, e⟩) k hk⟩
  · have e : dedP l = l := by
      have := dedP_same l.length (Nat.le_refl _) (fun j hj hl e => h ⟨j, hj, e⟩)
      rwa [List.take_length] at this
    refine ⟨[], ?_⟩
    rw [e, List.append_nil]
    exact compact_none H b ver l hb hl (fun j hj e => h ⟨j, hj, e⟩) k hk
def posS (l : List ByteArray) (t : ByteArray) : Nat := (l.takeWhile fun s => Ord.ltS s t).length
theorem takeWhile_len {α : Type} {f : α → Bool} : ∀ {l : List α} {p : Nat}, p ≤ l.length → (∀ i (hi : i < l.length), i < p → f l[i] = true) → (∀ i (hi : i < l.length), p ≤ i → f l[i] = false) → (l.takeWhile f).length = p
  | [], p, h, _, _ => by simp at h; simp [h]
  | a :: l, 0, _, _, h3 => by
    have := h3 0 (by simp) (Nat.le_refl _)
    simp only [List.getElem_cons_zero] at this
    simp [this]
  | a :: l, p + 1, h1, h2, h3 => by
    have := h2 0 (by simp) (by omega)
    simp only [List.getElem_cons_zero] at this
    rw [List.takeWhile_cons, if_pos this, List.length_cons, takeWhile_len (p := p) (by simpa using h1) (fun i hi hp => by
      have := h2 (i + 1) (by simpa using hi) (by omega)
      simpa using this) (fun i hi hp => by
      have := h3 (i + 1) (by simpa using hi) (by omega)
      simpa using this)]
theorem up_get {α : Type} {lt : α → α → Bool} {l : List α} (h : Ord.Up lt l) {i j : Nat} (hij : i < j) (hj : j < l.length) : lt (l[i]'(by omega)) l[j] = true := List.pairwise_iff_getElem.1 h i j (by omega) hj hij
theorem search_sorted (l : List ByteArray) (t : ByteArray) (hu : Ord.Up Ord.ltS l) (hn : l.length ≤ 1000000) (k : Nat) (hk : 1000010 ≤ k) :
    val Tryz.prog cf k 77 [mkL 1 (sRows l), .sc (.string t)] = some (.tup [.sc (.int .i64 (posS l t : Nat)), .sc (.bool (decide (l[posS l t]? = some t)))]) := by
  obtain ⟨p, h1, h2, h3, e⟩ := search_run l t hn (fun i j hi hj hij h => by
    rcases Nat.lt_or_ge i j with hlt | hge
    · exact Ord.linS.tr _ _ _ (up_get hu hlt hj) h
    · obtain rfl : i = j := by omega
      exact h) k hk
  have : posS l t = p := takeWhile_len h1 h2 h3
  rw [this]
  exact e
theorem posS_at {l : List ByteArray} (hu : Ord.Up Ord.ltS l) {i : Nat} (hi : i < l.length) : posS l l[i] = i := by
  refine takeWhile_len (by omega) (fun j hj hji => up_get hu hji hi) (fun j hj hij => ?_)
  rcases Nat.lt_or_ge i j with hlt | hge
  · cases h : Ord.ltS l[j] l[i] with
    | false => rfl
    | true => have := Ord.linS.tr _ _ _ (up_get hu hlt hj) h; rw [Ord.linS.irr] at this; cases this
  · obtain rfl : i = j := by omega
    exact Ord.linS.irr _
theorem posS_mem {l : List ByteArray} (hu : Ord.Up Ord.ltS l) {t : ByteArray} (ht : t ∈ l) : ∃ h : posS l t < l.length, l[posS l t] = t := by
  obtain ⟨i, hi, rfl⟩ := List.getElem_of_mem ht
  have := posS_at hu hi
  exact ⟨by omega, by simp only [this]⟩
theorem compact_nil (H : List Blk) (k : Nat) : arun Tryz.prog cf (k + 1) 82 [.sc (.slice none 0 0)] H = some (.sc (.slice none 0 0), H) := by
  have h0 : ∀ H, aLen Tryz.prog H 82 (.sc (.slice none 0 0)) = some (.val (.sc (.int .i64 ((0 : Nat) : Int)))) := fun H => by
    simp only [aLen, alen, Tryz.underlying82, toV]
    simp [pOut, Builtin.len_, pureRun_bind, pureRun_under Tryz.underlying82, pureRun_pure, ofV, goInt]
  have h2 : (((0 : Nat) : Int) < 2) = True := by simp
  rw [arun_body rfl rfl Tryz.func82 rfl (N := 61) rfl]
  simp only [R0, RC, zipEnv, Nat.reduceLT, Nat.reduceAdd, Nat.reduceEqDiff, Nat.reduceLeDiff, reduceCtorEq, ↓reduceIte, ares, aresult, pr, Int.reduceEq, Int.reduceLT, Int.reduceLE, Nat.reduceSub, Nat.reduceMul, aFieldAddr, aField, aLoad, aStore, aExtract, aBox, aint, rdVar, rdCells, Value.oneCell', splice, Int.reduceNeg, zvar1, chunks, depth, some_map, Nat.reduceBEq, cf_dyn, okU, Tryz.f82, rf82, h0, h2]
theorem sortF_nil (H : List Blk) (k : Nat) : arun Tryz.prog cf (k + 1) 79 [.sc (.slice none 0 0), .fn 80 []] H = some (.tup [], H) := by
  rw [pm79]
  simp only [sortFPrim, if_true, ownPairs]
theorem sortFPrim_own {H : List Blk} {b ver : Nat} {e : TypeId} {g : FuncId} {l : List I2} (hk : H[b]? = some ⟨e, 2, ver, true, (pRows l).flatten, .cells⟩) (hl : l.length < 4611686018427387904) :
    sortFPrim g [.own b 0 l.length 2 ver, .fn g []] H = some (.tup [], H.set b ⟨e, 2, ver, true, (pRows (sortI2 l)).flatten, .cells⟩) := by
  have h1 : ownPairs H (.own b 0 l.length 2 ver) = some (b, 0, l.length, ver, ⟨e, 2, ver, true, (pRows l).flatten, .cells⟩, l) := by
    simp only [ownPairs, blkAt_some' hk rfl rfl, Nat.zero_mul, List.drop_zero]
    rw [List.take_of_length_le (by rw [pRows_len]; exact Nat.le_refl _), pairsOf_map]
    simp [hl]
  unfold sortFPrim
  simp only [if_true, h1, putV, Nat.zero_mul, Nat.zero_add, List.take_zero, List.nil_append]
  rw [List.drop_eq_nil_of_le (by rw [pRows_len]; exact Nat.le_refl _), List.append_nil, pC_flat]
def rawR (names : List ByteArray) (r : RuleT) : List I2 := (eachL r.body).map fun q => ((posS names r.head.p : Int), (posS names q.2 : Int))
def rawN (names : List ByteArray) (p : ProgT) : List I2 := p.rules.flatMap (rawR names)
def namesT (p : ProgT) : List ByteArray := Ord.sorted (allN p)
def needsT (p : ProgT) : List I2 := Ord.nsort ltP2 (rawN (namesT p) p)
theorem namesT_up (p : ProgT) : Ord.Up Ord.ltS (namesT p) := Ord.nsort_up Ord.linS _
theorem pRows_stay {l : List I2} : ∀ r ∈ pRows l, ∀ x ∈ r, Stays x ∧ ∃ u, x = .sc u := fun r hr x hx => by
  obtain ⟨s, _, rfl⟩ := List.mem_map.1 hr
  simp only [pC, List.mem_cons, List.not_mem_nil, or_false] at hx
  rcases hx with rfl | rfl
  · exact ⟨stays_int, _, rfl⟩
  · exact ⟨stays_int, _, rfl⟩
def NE (l : List I2) : List Blk := [⟨82, 1, 0, false, [accV 1 2 (pRows l)], .cells⟩] ++ accB 115 2 (pRows l)
theorem ne_app (l : List I2) (x : I2) (hl : l.length ≤ 1000000) : outH (NE l) (aappend Tryz.prog (NE l) 82 (accV 1 2 (pRows l)) (mkL 2 [[.sc (.int .i64 x.1), .sc (.int .i64 x.2)]])) = some (accV 1 2 (pRows (l ++ [x])), [⟨82, 1, 0, false, [accV 1 2 (pRows l)], .cells⟩] ++ accB 115 2 (pRows (l ++ [x]))) := by
  have := acc1 (P := Tryz.prog) (H := [⟨82, 1, 0, false, [accV 1 2 (pRows l)], .cells⟩]) (rows := pRows l) (r := pC x) ro82 pRows_row rfl rfl (by rw [List.length_map]; omega) (by rw [List.length_map]; unfold maxLen; omega)
  rw [show pRows (l ++ [x]) = pRows l ++ [pC x] by simp [pRows]]
  exact this
theorem acc_own {b sz : Nat} {rows : List (List AV)} : solid (accV b sz rows) = true ∧ acells (accV b sz rows) = [accV b sz rows] ∧ one (accV b sz rows) = true := by
  unfold accV
  split <;> exact ⟨rfl, rfl, rfl⟩
theorem clo_needs (names : List ByteArray) (hu : Ord.Up Ord.ltS names) (hn : names.length ≤ 1000000) (q : LitT) (s : ByteArray) (f : Nat) (l : List I2) (hl : l.length ≤ 1000000) (k : Nat) (hk : 1000010 ≤ k) : arun Tryz.prog cf (k + 1) 78 [.agg q.c, .sc (.string s), .ro [mkL 1 (sRows names)], .ptr 0 0 0, .ro [.sc (.int .i64 (f : Nat))]] (NE l) = some (.tup [], NE (l ++ [((f : Int), (posS names s : Int))])) := by
  have ha := ne_app l ((f : Int), (posS names s : Int)) hl
  have hs := search_sorted names s hu hn k (by omega)
  have hlt : 0 < (accB 115 2 (pRows (l ++ [((f : Int), (posS names s : Int))]))).length + 1 := by omega
  obtain ⟨g1, g2, g3⟩ := acc_own (b := 1) (sz := 2) (rows := pRows (l ++ [((f : Int), (posS names s : Int))]))
  rw [arun_body rfl rfl Tryz.func78 rfl (N := 21) rfl]
  unfold NE at ha ⊢
  simp only [List.cons_append, List.nil_append] at ha
  simp only [R0, RC, zipEnv, Nat.reduceLT, Nat.reduceAdd, Nat.reduceEqDiff, Nat.reduceLeDiff, reduceCtorEq, ↓reduceIte, ares, aresult, pr, Int.reduceEq, Int.reduceLT, Int.reduceLE, Nat.reduceSub, Nat.reduceMul, aFieldAddr, aField, aLoad, aStore, aExtract, aBox, aint, rdVar, rdCells, Value.oneCell', splice, Int.reduceNeg, zvar1, chunks, depth, some_map, Nat.reduceBEq, cf_dyn, okU, Tryz.f78, rf78, LitT.c, hs, ha, g1, g2, g3]
theorem rawN_len (names : List ByteArray) : ∀ rs : List RuleT, (rs.flatMap (rawR names)).length ≤ (rs.flatMap ruleN).length
  | [] => by simp
  | r :: rs => by
    have := rawN_len names rs
    simp only [List.flatMap_cons, List.length_append, rawR, ruleN, List.length_map, List.length_cons]
    omega
theorem needs_run (p : ProgT) (hR : p.rules.length ≤ 1000) (hB : ∀ r ∈ p.rules, r.body.length ≤ 1000 ∧ ∀ l ∈ r.body, l.path.length ≤ 900) (hN : (allN p).length ≤ 100000) (k : Nat) (hk : 1000100 ≤ k) :
    val Tryz.prog cf k 46 [.agg p.c] = some (mkL 2 (pRows (needsT p))) := by
  obtain ⟨k, rfl⟩ : ∃ j, k = j + 1 := ⟨k - 1, by omega⟩
  have hn := names_run p hR hB (by omega) k (by omega)
  have hnl : (namesT p).length ≤ 100000 := Nat.le_trans (Ord.nsort_len_le _) hN
  rw [show Ord.sorted (allN p) = namesT p from rfl] at hn
  simp only [ProgT.c] at hn
  have key : ∃ v H', arun Tryz.prog cf (k + 1) 46 [.agg p.c] [] = some (v, H') ∧ HeadAt 2 H' v (pRows (needsT p)) := by
    have hRaw : (rawN (namesT p) p).length ≤ 100000 := by
      refine Nat.le_trans (rawN_len (namesT p) p.rules) ?_
      simp only [allN, List.length_cons] at hN
      omega
    rw [arun_body rfl rfl Tryz.func46 rfl (N := 34) rfl]
    have hw := wraps (n := p.rules.length) (by omega)
    simp only [R0, RC, zipEnv, Nat.reduceLT, Nat.reduceAdd, Nat.reduceEqDiff, Nat.reduceLeDiff, reduceCtorEq, ↓reduceIte, ares, aresult, pr, Int.reduceEq, Int.reduceLT, Int.reduceLE, Nat.reduceSub, Nat.reduceMul, aFieldAddr, aField, aLoad, aStore, aExtract, aBox, aint, rdVar, rdCells, Value.oneCell', splice, Int.reduceNeg, zvar1, chunks, depth, some_map, Nat.reduceBEq, cf_dyn, okU, Tryz.f46, rf46, ProgT.c, hn]
    generalize hA : aloop _ _ _ _ _ _ _ _ _ _ _ = A
    have hle : ∀ (m : List I2), accV 1 2 (pRows ([] : List I2)) = .sc (.slice none 0 0) := fun _ => rfl
    have e1 := aloop_eqR hA [3, 4, 12, 13, 14] (fun j => ⟨[(3, .ro [mkL 1 (sRows (namesT p))]), (4, .ptr 0 0 0), (12, mkL 4 (p.rules.map RuleT.c)), (13, .sc (.int .i64 p.rules.length)), (14, .sc (.int .i64 (j : Nat)))], NE ((p.rules.take j).flatMap (rawR (namesT p)))⟩) p.rules.length (by omega) rfl (by simp only [R0, RC, zipEnv, Nat.reduceLT, Nat.reduceAdd, Nat.reduceEqDiff, Nat.reduceLeDiff, reduceCtorEq, ↓reduceIte, ares, aresult, pr, Int.reduceEq, Int.reduceLT, Int.reduceLE, Nat.reduceSub, Nat.reduceMul, aFieldAddr, aField, aLoad, aStore, aExtract, aBox, aint, rdVar, rdCells, Value.oneCell', splice, Int.reduceNeg, zvar1, chunks, depth, some_map, Nat.reduceBEq, cf_dyn, okU, Tryz.f46, rf46]; rfl) (fun j hj => by
        obtain ⟨r, hr⟩ : ∃ r, r = p.rules[j] := ⟨_, rfl⟩
        have hx : p.rules[j]? = some r := by rw [hr]; exact List.getElem?_eq_getElem hj
        have hm0 : (p.rules.take (j + 1)).flatMap (rawR (namesT p)) = (p.rules.take j).flatMap (rawR (namesT p)) ++ rawR (namesT p) r := by
          rw [hr, List.take_succ_eq_append_getElem hj, List.flatMap_append]
          simp
        have hml : ((p.rules.take (j + 1)).flatMap (rawR (namesT p))).length ≤ 100000 := by
          refine Nat.le_trans ?_ hRaw
          unfold rawN
          conv => rhs; rw [← List.take_append_drop (j + 1) p.rules, List.flatMap_append]
          simp only [List.length_append]
          omega
        rw [hm0] at hml ⊢
        generalize (p.rules.take j).flatMap (rawR (namesT p)) = m at hml ⊢
        simp only [rawR, List.length_append, List.length_map] at hml
        have hmem : r ∈ p.rules := by rw [hr]; exact List.getElem_mem hj
        have hs := search_sorted (namesT p) r.head.p (namesT_up p) (by omega) k (by omega)
        have hE := each_run (g := 78) (caps := [.ro [mkL 1 (sRows (namesT p))], .ptr 0 0 0, .ro [.sc (.int .i64 (posS (namesT p) r.head.p : Nat))]]) (S := fun i => NE (m ++ (rawR (namesT p) r).take i)) r (hB r hmem).1 (hB r hmem).2 k (by omega) (fun i q strict hq => by
          have hi : i < (eachL r.body).length := by
            rcases Nat.lt_or_ge i (eachL r.body).length with h | h
            · exact h
            · rw [List.getElem?_eq_none h] at hq; cases hq
          have hc := clo_needs (namesT p) (namesT_up p) (by omega) q.1 q.2 (posS (namesT p) r.head.p) (m ++ (rawR (namesT p) r).take i) (by simp; omega) (k - 2) (by omega)
          rw [show k - 2 + 1 = k - 1 by omega] at hc
          rw [cl78]
          refine hc.trans ?_
          obtain ⟨_, hq'⟩ := List.getElem?_eq_some_iff.1 hq
          have e3 : (rawR (namesT p) r).take (i + 1) = (rawR (namesT p) r).take i ++ [((posS (namesT p) r.head.p : Int), (posS (namesT p) q.2 : Int))] := by
            unfold rawR
            rw [List.take_succ_eq_append_getElem (by simpa using hi)]
            simp [hq']
          rw [e3, List.append_assoc])
        have e4 : (rawR (namesT p) r).take (eachL r.body).length = rawR (namesT p) r := List.take_of_length_le (by simp [rawR])
        simp only [List.take_zero, List.append_nil, e4, RuleT.c] at hE
        unfold NE at hE ⊢
        simp only [List.cons_append, List.nil_append] at hE
        simp only [R0, RC, zipEnv, Nat.reduceLT, Nat.reduceAdd, Nat.reduceEqDiff, Nat.reduceLeDiff, reduceCtorEq, ↓reduceIte, ares, aresult, pr, Int.reduceEq, Int.reduceLT, Int.reduceLE, Nat.reduceSub, Nat.reduceMul, aFieldAddr, aField, aLoad, aStore, aExtract, aBox, aint, rdVar, rdCells, Value.oneCell', splice, Int.reduceNeg, zvar1, chunks, depth, some_map, Nat.reduceBEq, cf_dyn, okU, Tryz.f46, rf46, RuleT.c, hj, hx, hw j hj, hs, hE]) (by simp only [R0, RC, zipEnv, Nat.reduceLT, Nat.reduceAdd, Nat.reduceEqDiff, Nat.reduceLeDiff, reduceCtorEq, ↓reduceIte, ares, aresult, pr, Int.reduceEq, Int.reduceLT, Int.reduceLE, Nat.reduceSub, Nat.reduceMul, aFieldAddr, aField, aLoad, aStore, aExtract, aBox, aint, rdVar, rdCells, Value.oneCell', splice, Int.reduceNeg, zvar1, chunks, depth, some_map, Nat.reduceBEq, cf_dyn, okU, Tryz.f46, rf46]; rfl) rfl
    rw [e1, List.take_length]
    obtain ⟨L, hL⟩ : ∃ L, L = rawN (namesT p) p := ⟨_, rfl⟩
    rw [show p.rules.flatMap (rawR (namesT p)) = L from hL.symm]
    have hLl : L.length ≤ 100000 := by rw [hL]; exact hRaw
    unfold needsT
    rw [← hL, ← ded_sort]
    by_cases h0 : L = []
    · subst h0
      refine ⟨.sc (.slice none 0 0), NE [], ?_, .inl ⟨rfl, rfl⟩⟩
      have h1 := fun H => compact_nil H (k - 1)
      have h2 := fun H => sortF_nil H (k - 1)
      rw [show k - 1 + 1 = k by omega] at h1 h2
      unfold NE
      simp only [R0, RC, zipEnv, Nat.reduceLT, Nat.reduceAdd, Nat.reduceEqDiff, Nat.reduceLeDiff, reduceCtorEq, ↓reduceIte, ares, aresult, pr, Int.reduceEq, Int.reduceLT, Int.reduceLE, Nat.reduceSub, Nat.reduceMul, aFieldAddr, aField, aLoad, aStore, aExtract, aBox, aint, rdVar, rdCells, Value.oneCell', splice, Int.reduceNeg, zvar1, chunks, depth, some_map, Nat.reduceBEq, cf_dyn, okU, Tryz.f46, rf46, accV_nil, accB_nil, List.map_nil, h1, h2]
    · obtain ⟨rest, ec⟩ := compact_run (NE L) 1 (L.length - 1) (sortI2 L) (by unfold NE accB; simp [h0]) (by rw [sortI2_len]; exact hLl) (k - 1) (by omega)
      rw [show k - 1 + 1 = k by omega, sortI2_len] at ec
      refine ⟨.own 1 0 (pRows (dedP (sortI2 L))).length 2 (L.length - 1), HP (NE L) 1 (L.length - 1) (dedP (sortI2 L) ++ rest), ?_, .inr ⟨1, L.length - 1, 115, (pRows rest).flatten, rfl, ?_⟩⟩
      · have hg : (NE L)[1]? = some ⟨115, 2, L.length - 1, true, (pRows L).flatten, .cells⟩ := by unfold NE accB; simp [h0]
        have hs := sortFPrim_own (g := 80) hg (by omega)
        have hv : accV 1 2 (pRows L) = .own 1 0 L.length 2 (L.length - 1) := by unfold accV; simp [h0]
        have h00 : (NE L)[0]? = some ⟨82, 1, 0, false, [.own 1 0 L.length 2 (L.length - 1)], .cells⟩ := by rw [← hv]; rfl
        have h01 : ((NE L).set 1 ⟨115, 2, L.length - 1, true, (pRows (sortI2 L)).flatten, .cells⟩)[0]? = some ⟨82, 1, 0, false, [.own 1 0 L.length 2 (L.length - 1)], .cells⟩ := by rw [← hv]; rfl
        have hpm : ∀ args H, arun Tryz.prog cf k 79 args H = sortFPrim 80 args H := fun args H => by
          obtain ⟨k', rfl⟩ : ∃ j, k = j + 1 := ⟨k - 1, by omega⟩
          exact pm79
        unfold HP HB at ec ⊢
        simp only [R0, RC, zipEnv, Nat.reduceLT, Nat.reduceAdd, Nat.reduceEqDiff, Nat.reduceLeDiff, reduceCtorEq, ↓reduceIte, ares, aresult, pr, Int.reduceEq, Int.reduceLT, Int.reduceLE, Nat.reduceSub, Nat.reduceMul, aFieldAddr, aField, aLoad, aStore, aExtract, aBox, aint, rdVar, rdCells, Value.oneCell', splice, Int.reduceNeg, zvar1, chunks, depth, some_map, Nat.reduceBEq, cf_dyn, okU, Tryz.f46, rf46, h00, h01, hpm, hs, ec, List.length_map]
      · unfold HP
        rw [hb_get (by unfold NE accB; simp [h0])]
        simp [pRows]
  obtain ⟨v, H', e, hh⟩ := key
  exact val_head e hh pRows_row pRows_stay
end Go.Proofs.YtpgipdajinkdgaaGreatA
