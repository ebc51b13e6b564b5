/- A part of the proof of MagicAsks: functions of the program, run by the evaluator. -/

/- magic.Rewrite. -/
import Derived.Test.YtpgipdajinkdgaaGreatM8
namespace Go.Proofs.YtpgipdajinkdgaaGreatA
open Go Go.RowKit
set_option linter.all false
set_option linter.unusedSectionVars false
set_option linter.constructorNameAsVariable false
set_option linter.unusedVariables false
set_option linter.unusedSimpArgs false
structure MagS (p : ProgT) : Prop where
  rules : p.rules.length ≤ 8
  query : p.query.args.length ≤ 4
  body : ∀ r ∈ p.rules, r.body.length ≤ 6 ∧ r.head.args.length ≤ 10 ∧ ∀ x ∈ r.body, x.a.args.length ≤ 4
  path : ∀ r ∈ p.rules, ∀ l ∈ r.body, l.path.length ≤ 900
  names : (allN p).length ≤ 1000
  bytes : ∀ n ∈ allN p, n.size ≤ bigB
noncomputable def usedT (prune : Bool) (D : List D2) : List D2 := if prune = true then pruneT D else D
theorem pruS_mem (l : List D2) : ∀ (m : List D2) (out : List D2) (x : D2), x ∈ m.foldl (pruS l) out → x ∈ out ∨ x ∈ m
  | [], out, x, h => .inl h
  | d :: m, out, x, h => by
    rw [List.foldl_cons] at h
    rcases pruS_mem l m _ x h with h | h
    · unfold pruS at h
      split at h
      · rcases List.mem_append.1 h with h | h
        · exact .inl h
        · rw [List.mem_singleton] at h
          exact .inr (by rw [h]; exact List.mem_cons_self ..)
      · exact .inl h
    · exact .inr (List.mem_cons_of_mem _ h)
theorem usedT_mem {prune : Bool} {D : List D2} {x : D2} (h : x ∈ usedT prune D) : x ∈ D := by
  unfold usedT at h
  split at h
  · unfold pruneT at h
    rcases pruS_mem D D [] x h with h | h
    · cases h
    · exact h
  · exact h
theorem usedT_len {prune : Bool} {D : List D2} : (usedT prune D).length ≤ D.length := by
  unfold usedT
  split
  · unfold pruneT
    have := pruS_len D D []
    simpa using this
  · exact Nat.le_refl _
theorem inS_mem {l : List ByteArray} {s : ByteArray} (h : inS l s = true) : s ∈ l := by
  unfold inS at h
  simpa using h
theorem openT_size {p : ProgT} (S : MagS p) {s : ByteArray} (h : s ∈ openT p) : s.size ≤ bigB := by
  unfold openT at h
  have h2 := (List.mem_filter.1 h).1
  unfold namesT at h2
  exact S.bytes s ((Ord.nsort_mem Ord.linS _ _).1 h2)
theorem openT_len {p : ProgT} (S : MagS p) : (openT p).length ≤ 1000 := by
  unfold openT
  refine Nat.le_trans (List.length_filter_le _ _) ?_
  unfold namesT
  exact Nat.le_trans (Ord.nsort_len_le _) S.names
theorem demI_size {p : ProgT} (S : MagS p) {D : List D2} (h : DemI p (openT p) D) {u : D2} (hu : u ∈ D) : u.1.size ≤ bigB ∧ u.2.size ≤ 4 := by
  refine ⟨openT_size S (inS_mem (h.pred u hu)), ?_⟩
  obtain ⟨i, hi, rfl⟩ := List.mem_iff_getElem.1 hu
  rcases h.src i _ (List.getElem?_eq_getElem hi) with rfl | ⟨r, hr, x, hx, _, V, e⟩
  · have h2 := h.head
    rw [List.getElem?_eq_getElem hi] at h2
    rw [Option.some.inj h2]
    show (patS [] p.query.args).size ≤ 4
    unfold patS
    simp [ByteArray.size]
    exact S.query
  · rw [e]
    show (patS V x.a.args).size ≤ 4
    unfold patS
    simp [ByteArray.size]
    exact (S.body r hr).2.2 x hx
theorem pfxT_size {p : ProgT} (S : MagS p) : (pfxT p).size ≤ bigB + 4 := by
  unfold pfxT
  rw [preS_size]
  have := pfxJ_le (names := Ord.sorted (allN p)) (B := bigB) fun n h => S.bytes n ((Ord.nsort_mem Ord.linS _ _).1 h)
  omega
theorem rewS_of {p : ProgT} (S : MagS p) {D : List D2} (h : DemI p (openT p) D) (prune : Bool) : RewS p (pfxT p) (openT p) (usedT prune D) where
  pxS := by have := pfxT_size S; unfold bigB at this; omega
  opS := openT_len S
  usedS := by
    have := usedT_len (prune := prune) (D := D)
    have := h.len S.rules fun r hr => ⟨(S.body r hr).1, (S.body r hr).2.2⟩
    omega
  ds := fun u hu => by
    have := demI_size S h (usedT_mem hu)
    unfold bigB at this
    omega
  rules := by have := S.rules; omega
  query := by have := S.query; omega
  head := fun r hr => (S.body r hr).2.1
  body := fun r hr => by have := (S.body r hr).1; omega
  args := fun r hr l hl => by have := (S.body r hr).2.2 l hl; omega
theorem firstD_size {p : ProgT} {px : ByteArray} {op : List ByteArray} {used : List D2} (S : RewS p px op used) : (firstD used p).1.size ≤ 10000000000000000 ∧ (firstD used p).2.size ≤ 1000 :=
  useD_mem (P := fun z => z.1.size ≤ 10000000000000000 ∧ z.2.size ≤ 1000) S.ds ⟨by decide, by decide⟩
theorem rew_read {H : List Blk} {v : AV} {ws : List (List AV)} {rs : List RuleT} (ho : OutAt 50 4 H v ws) (ha : AllR ws rs) (f : ByteArray) (l : List TermT) (b : Bool) : rb H depth (.tup [.agg [v, .sc (.string f), mkL 4 (l.map TermT.c)], .sc (.bool b)]) = some (.tup [.agg (ProgT.mk rs ⟨f, l⟩).c, .sc (.bool b)]) := by
  have h := rb_rows (k := 36) (tgt := rs.map RuleT.c) ho (by rw [ha.1, List.length_map]) ha.len (fun r hr => by obtain ⟨q, _, rfl⟩ := List.mem_map.1 hr; rfl) (fun i w y hw hy => by
    rw [List.getElem?_map] at hy
    obtain ⟨q, hq, rfl⟩ := Option.map_eq_some_iff.1 hy
    exact (ha.2 i w q hw hq).rb H)
  have h2 : rb H 38 (mkL 4 (l.map TermT.c)) = some (mkL 4 (l.map TermT.c)) := rb_mkL (k := 37)
  show Option.map AV.tup (amap (rb H 39) _) = _
  have h3 : rb H 39 (.agg [v, .sc (.string f), mkL 4 (l.map TermT.c)]) = some (.agg (ProgT.mk rs ⟨f, l⟩).c) := by
    show Option.map AV.agg (amap (rb H 38) _) = _
    have h4 : rb H 38 (.sc (.string f)) = some (.sc (.string f)) := rfl
    simp only [amap, h, h2, h4]
    rfl
  have h5 : rb H 39 (.sc (.bool b)) = some (.sc (.bool b)) := rfl
  simp only [amap, h3, h5]
  rfl
theorem rew_same {H : List Blk} (p : ProgT) (b : Bool) : rb H depth (.tup [.agg [mkL 4 (p.rules.map RuleT.c), .sc (.string p.query.p), mkL 4 (p.query.args.map TermT.c)], .sc (.bool b)]) = some (.tup [.agg p.c, .sc (.bool b)]) := by
  have h1 : rb H 38 (mkL 4 (p.rules.map RuleT.c)) = some (mkL 4 (p.rules.map RuleT.c)) := rb_mkL (k := 37)
  have h2 : rb H 38 (mkL 4 (p.query.args.map TermT.c)) = some (mkL 4 (p.query.args.map TermT.c)) := rb_mkL (k := 37)
  show Option.map AV.tup (amap (rb H 39) _) = _
  have h3 : rb H 39 (.agg [mkL 4 (p.rules.map RuleT.c), .sc (.string p.query.p), mkL 4 (p.query.args.map TermT.c)]) = some (.agg p.c) := by
    show Option.map AV.agg (amap (rb H 38) _) = _
    have h4 : rb H 38 (.sc (.string p.query.p)) = some (.sc (.string p.query.p)) := rfl
    simp only [amap, h1, h2, h4]
    rfl
  have h5 : rb H 39 (.sc (.bool b)) = some (.sc (.bool b)) := rfl
  simp only [amap, h3, h5]
  rfl
theorem RewH.book {p : ProgT} {px : ByteArray} {op : List ByteArray} {used : List D2} {H : List Blk} {rs : List RuleT} (h : RewH p px op used H rs) : H[1]? = some ⟨65, 3, 0, false, [.sc (.string px), mkL 1 (sRows op), mkL 2 (dRows used)], .cells⟩ := by
  obtain ⟨v, ws, ho, ha, n0, n1, n2, h2, h1, c0, h0, hc0⟩ := h
  exact h1
theorem RewH.last {p : ProgT} {px : ByteArray} {op : List ByteArray} {used : List D2} {H : List Blk} (h : RewH p px op used H (ask0 px used p :: used.flatMap (dmR px op used p) ++ baseR p)) :
    ∃ v, H[2]? = some ⟨40, 3, 0, false, [v, .sc (.string (foundS px (firstD used p))), mkL 4 (p.query.args.map TermT.c)], .cells⟩ ∧ ∃ a b c, H[0]? = some ⟨40, 3, 0, false, [a, b, c], .cells⟩ ∧ (∀ y, (H.set 0 y)[0]? = some y) ∧ one v = true ∧
      rb (H.set 0 ⟨40, 3, 0, false, [v, .sc (.string (foundS px (firstD used p))), mkL 4 (p.query.args.map TermT.c)], .cells⟩) depth (.tup [.agg [v, .sc (.string (foundS px (firstD used p))), mkL 4 (p.query.args.map TermT.c)], .sc (.bool true)]) = some (.tup [.agg (rewT px op used p).c, .sc (.bool true)]) := by
  obtain ⟨v, ws, ho, ha, n0, n1, n2, h2, h1, c0, h0, hc0⟩ := h
  have hlt := (List.getElem?_eq_some_iff.1 h0).1
  match c0, hc0, h0 with
  | [a, b, c], _, h0 =>
    refine ⟨v, h2, a, b, c, h0, fun y => List.getElem?_set_self hlt, ?_, ?_⟩
    · rcases ho with ⟨_, rfl⟩ | ⟨_, b, ver, rfl, _⟩ <;> rfl
    · refine rew_read ?_ ha _ _ _
      rcases ho with ⟨q1, q2⟩ | ⟨q1, b, ver, q2, q3⟩
      · exact .inl ⟨q1, q2⟩
      · refine .inr ⟨q1, b, ver, q2, ?_⟩
        rw [List.getElem?_set_ne]
        · exact q3
        · rintro rfl
          exact n0 (by rw [q2]; rfl)
def row0 (px : ByteArray) (used : List D2) (p : ProgT) : List AV := [.sc (.string (askS px (firstD used p))), mkL 4 (tRows (givenT p.query.args (firstD used p).2)), .sc (.int .i64 0), .sc (.slice none 0 0)]
def heap4 (px : ByteArray) (op : List ByteArray) (used : List D2) (p : ProgT) (c0 : List AV) : List Blk := [⟨40, 3, 0, false, c0, .cells⟩, ⟨65, 3, 0, false, [.sc (.string px), mkL 1 (sRows op), mkL 2 (dRows used)], .cells⟩, ⟨40, 3, 0, false, [.sc (.slice none 0 0), .sc (.string (foundS px (firstD used p))), mkL 4 (p.query.args.map TermT.c)], .cells⟩, ⟨50, 4, 0, true, row0 px used p, .cells⟩]
theorem row0_reads (px : ByteArray) (used : List D2) (p : ProgT) : ReadsR (row0 px used p) (ask0 px used p) where
  len := rfl
  ones := by simp [row0, one_mkL, one_sc, Value.oneCell']
  rb := fun H => by
    have h2 : rb H 37 (mkL 4 (tRows (givenT p.query.args (firstD used p).2))) = some (mkL 4 (tRows (givenT p.query.args (firstD used p).2))) := rb_mkL (k := 36)
    have h3 : rb H 37 (.sc (.string (askS px (firstD used p)))) = some (.sc (.string (askS px (firstD used p)))) := rfl
    have h4 : rb H 37 (.sc (.int .i64 0)) = some (.sc (.int .i64 0)) := rfl
    have h5 : rb H 37 (.sc (.slice none 0 0)) = some (.lst 0 []) := rfl
    simp only [row0, amap, h2, h3, h4, h5]
    rfl
theorem rew_first (px : ByteArray) (op : List ByteArray) (used : List D2) (p : ProgT) {c0 : List AV} (hc0 : c0.length = 3) :
    ∃ v' H', outH (heap4 px op used p c0) (aappend Tryz.prog (heap4 px op used p c0) 38 (.sc (.slice none 0 0)) (.own 3 0 1 4 0)) = some (v', H') ∧
      H'[2]? = some ⟨40, 3, 0, false, [.sc (.slice none 0 0), .sc (.string (foundS px (firstD used p))), mkL 4 (p.query.args.map TermT.c)], .cells⟩ ∧ one v' = true ∧ solid v' = true ∧ acells v' = [v'] ∧
      RewH p px op used (H'.set 2 ⟨40, 3, 0, false, [v', .sc (.string (foundS px (firstD used p))), mkL 4 (p.query.args.map TermT.c)], .cells⟩) [ask0 px used p] := by
  have hel : ∀ z, elems (heap4 px op used p c0) (.own 3 0 1 4 0) z = elems (heap4 px op used p c0) (mkL 4 [row0 px used p]) z := fun z => by
    have ht : (heap4 px op used p c0)[3]? = some ⟨50, 4, 0, true, row0 px used p, .cells⟩ := rfl
    simp only [elems, mkL]
    rw [blkAt_some' ht rfl rfl]
    by_cases hz : 4 = z
    · subst hz; rfl
    · simp [hz]
  obtain ⟨v', H', e1, o1, l1, k1, f1⟩ := appF (H := heap4 px op used p c0) (v := .sc (.slice none 0 0)) (rows := []) (r := row0 px used p) ro38 (.inl ⟨rfl, rfl⟩) (fun _ h => by cases h) rfl (row0_reads px used p).ones (by simp) (by simp [maxLen])
  rw [← app_sameM hel] at e1
  have hl4 : (heap4 px op used p c0).length = 4 := rfl
  rw [hl4] at l1
  have hv' : one v' = true ∧ solid v' = true ∧ acells v' = [v'] := by
    rcases o1 with ⟨h, _⟩ | ⟨_, b, ver, rfl, _⟩
    · simp at h
    · exact ⟨rfl, rfl, rfl⟩
  have fr : ∀ c, c < 4 → blkB v' ≠ some c := fun c hc e => by
    rcases f1 c e with h | h
    · cases h
    · rw [hl4] at h
      omega
  have kk : ∀ c, c < 4 → H'[c]? = (heap4 px op used p c0)[c]? := fun c hc => k1 c (by rw [hl4]; exact hc) (by simp [blkB])
  refine ⟨v', H', e1, kk 2 (by omega), hv'.1, hv'.2.1, hv'.2.2, v', [row0 px used p], ?_, ⟨rfl, fun i w r hw hr => ?_⟩, fr 0 (by omega), fr 1 (by omega), fr 2 (by omega), ?_, ?_, c0, ?_, hc0⟩
  · rw [List.nil_append] at o1
    rcases o1 with ⟨q1, q2⟩ | ⟨q1, b, ver, q2, q3⟩
    · cases q1
    · refine .inr ⟨q1, b, ver, q2, ?_⟩
      rw [List.getElem?_set_ne]
      · exact q3
      · rintro rfl
        exact fr 2 (by omega) (by rw [q2]; rfl)
  · cases i with
    | zero =>
      rw [← Option.some.inj hw, ← Option.some.inj hr]
      exact row0_reads px used p
    | succ i => simp at hw
  · rw [List.getElem?_set_self (by omega)]
  · rw [List.getElem?_set_ne (by omega), kk 1 (by omega)]
    rfl
  · rw [List.getElem?_set_ne (by omega), kk 0 (by omega)]
    rfl
set_option maxRecDepth 20000 in
set_option maxHeartbeats 4000000 in
theorem rewrite_run (p : ProgT) (prune : Bool) (S : MagS p) (k : Nat) (hk : bigB + 1000800 ≤ k) :
    (inS (openT p) p.query.p = false ∧ valD Tryz.prog cf k 15 [.agg p.c, .sc (.bool prune)] = some (.tup [.agg p.c, .sc (.bool false)])) ∨
    (inS (openT p) p.query.p = true ∧ ∃ D, DemI p (openT p) D ∧ valD Tryz.prog cf k 15 [.agg p.c, .sc (.bool prune)] = some (.tup [.agg (rewT (pfxT p) (openT p) (usedT prune D) p).c, .sc (.bool true)])) := by
  obtain ⟨k, rfl⟩ : ∃ j, k = j + 1 := ⟨k - 1, by omega⟩
  have hpre := prefix_run p (by have := S.rules; omega) (fun r hr => ⟨by have := (S.body r hr).1; omega, S.path r hr⟩) (by have := S.names; omega) S.bytes k (by omega)
  have hopen : ∀ k, 1000300 ≤ k → val Tryz.prog cf k 26 [.agg p.c] = some (mkL 1 (sRows (openT p))) := fun k hk => open_run p (by have := S.rules; omega) (fun r hr => ⟨by have := (S.body r hr).1; omega, S.path r hr⟩) S.names k (by omega)
  have ho := hopen k (by omega)
  obtain ⟨D, hd, hd0, hd1⟩ := demands_run p S.rules S.query S.body (openT_len S) k (by omega) hopen
  simp only [ProgT.c, AtomT.c] at hpre ho hd
  cases hq : inS (openT p) p.query.p with
  | false =>
    have e0 := hd0 hq
    subst e0
    refine .inl ⟨rfl, ?_⟩
    have key : ∃ v' H', arun Tryz.prog cf (k + 1) 15 [.agg p.c, .sc (.bool prune)] [] = some (v', H') ∧ rb H' depth v' = some (.tup [.agg p.c, .sc (.bool false)]) := by
      rw [arun_body rfl rfl Tryz.func15 rfl (N := 114) rfl]
      have hm : mkL 2 (dRows ([] : List D2)) = mkL 2 [] := rfl
      rw [hm] at hd
      simp only [R0, RC, zipEnv, Nat.reduceLT, Nat.reduceAdd, Nat.reduceEqDiff, Nat.reduceLeDiff, reduceCtorEq, ↓reduceIte, ares, aresult, pr, Int.reduceEq, Int.reduceLT, Int.reduceLE, Nat.reduceSub, Nat.reduceMul, aFieldAddr, aField, aLoad, aStore, aExtract, aBox, aint, rdVar, rdCells, Value.oneCell', splice, Int.reduceNeg, zvar1, chunks, depth, some_map, Nat.reduceBEq, cf_dyn, okU, Tryz.f15, rf15, ProgT.c, hpre, ho, hd]
      exact ⟨.tup [.agg [mkL 4 (p.rules.map RuleT.c), .sc (.string p.query.p), mkL 4 (p.query.args.map TermT.c)], .sc (.bool false)], _, rfl, rew_same p false⟩
    obtain ⟨v', H', e, hr⟩ := key
    exact valD_of e hr
  | true =>
    have hI := hd1 hq
    have R := rewS_of S hI prune
    have hds := fun u (hu : u ∈ D) => demI_size S hI hu
    refine .inr ⟨rfl, D, hI, ?_⟩
    generalize pfxT p = px at *
    generalize openT p = op at *
    have hDl : D.length ≤ 1000 := by
      have := hI.len S.rules fun r hr => ⟨(S.body r hr).1, (S.body r hr).2.2⟩
      omega
    have hD0 : D ≠ [] := fun e => by have := hI.head; rw [e] at this; simp at this
    have hlen : (dRows D).length = D.length := by unfold dRows; simp
    have hpos : ¬ ((D.length : Int) = 0) := by
      intro e
      exact hD0 (List.eq_nil_of_length_eq_zero (by omega))
    have hprune := prune_run D hDl (fun x hx => by have := (hds x hx).2; omega) k (by omega)
    generalize hu : usedT prune D = used at *
    have huse := bookUse_run px op used p.query [] R.usedS (fun x hx => (R.ds x hx).2) (by have := R.query; omega) (by simp) k (by omega)
    have hfs := firstD_size R
    have hfnd := found_run px (firstD used p) (by have := R.pxS; omega) (by omega) (by omega) k (by omega)
    have hask := asked_run px (firstD used p) (by have := R.pxS; omega) (by omega) (by omega) k (by omega)
    have hgiv := given_run p.query (firstD used p).2 (by have := R.query; omega) k (by omega)
    have hfd : (useD used (p.query.p, patS [] p.query.args)).1 = firstD used p := rfl
    rw [hfd, show mkL 1 (sRows ([] : List ByteArray)) = mkL 0 [] from rfl] at huse
    have key : ∃ v' H', arun Tryz.prog cf (k + 1) 15 [.agg p.c, .sc (.bool prune)] [] = some (v', H') ∧ rb H' depth v' = some (.tup [.agg (rewT px op used p).c, .sc (.bool true)]) := by
      rw [arun_body rfl rfl Tryz.func15 rfl (N := 114) rfl]
      simp only [D2.c, AtomT.c] at huse hfnd hask hgiv
      cases prune with
      | false =>
        have hu2 : D = used := by rw [← hu]; rfl
        subst hu2
        have hulen := hlen
        obtain ⟨v', H', e1, q2, o1, o2, o3, hR⟩ := rew_first px op D p (c0 := [.sc (.slice none 0 0), .sc (.string .empty), .sc (.slice none 0 0)]) rfl
        have g1 := hR.book
        unfold heap4 row0 at e1
        have hout := fun (s0 : St) (R0 : Option (AX × St)) (jump : Code → Code → St → Option (AX × St)) (h : _) => rew_outer (jump := jump) (s0 := s0) (R := R0) R (k := k) (by omega) hR h
        have hbas := fun (s0 : St) (R0 : Option (AX × St)) (jump : Code → Code → St → Option (AX × St)) (H : List Blk) (hR : _) (h : _) => rew_base (jump := jump) (s0 := s0) (R := R0) (H := H) (rs := ask0 px D p :: D.flatMap (dmR px op D p)) R (k := k) (by omega) (by simp) (by
          have := flat_bound (px := px) (op := op) (used := D) R.body R.rules D
          have := R.usedS
          rw [List.length_cons]
          omega) hR h
        simp only [R0, RC, zipEnv, Nat.reduceLT, Nat.reduceAdd, Nat.reduceEqDiff, Nat.reduceLeDiff, reduceCtorEq, ↓reduceIte, ares, aresult, pr, Int.reduceEq, Int.reduceLT, Int.reduceLE, Nat.reduceSub, Nat.reduceMul, aFieldAddr, aField, aLoad, aStore, aExtract, aBox, aint, rdVar, rdCells, Value.oneCell', splice, Int.reduceNeg, zvar1, chunks, depth, some_map, Nat.reduceBEq, cf_dyn, okU, Tryz.f15, rf15, ProgT.c, hpre, ho, hd, hlen, hpos, huse, hfnd, hask, hgiv, e1, q2, o1, o2, o3, g1]
        generalize hA : aloop _ _ _ _ _ _ _ _ _ _ _ = A
        obtain ⟨H2, hR2, eA⟩ := hout _ _ _ hA (by simp only [R0, RC, zipEnv, Nat.reduceLT, Nat.reduceAdd, Nat.reduceEqDiff, Nat.reduceLeDiff, reduceCtorEq, ↓reduceIte, ares, aresult, pr, Int.reduceEq, Int.reduceLT, Int.reduceLE, Nat.reduceSub, Nat.reduceMul, aFieldAddr, aField, aLoad, aStore, aExtract, aBox, aint, rdVar, rdCells, Value.oneCell', splice, Int.reduceNeg, zvar1, chunks, depth, some_map, Nat.reduceBEq, cf_dyn, okU, Tryz.f15, rf15, D2.c, ProgT.c, hulen]; try rfl)
        rw [eA]
        simp only [R0, RC, zipEnv, Nat.reduceLT, Nat.reduceAdd, Nat.reduceEqDiff, Nat.reduceLeDiff, reduceCtorEq, ↓reduceIte, ares, aresult, pr, Int.reduceEq, Int.reduceLT, Int.reduceLE, Nat.reduceSub, Nat.reduceMul, aFieldAddr, aField, aLoad, aStore, aExtract, aBox, aint, rdVar, rdCells, Value.oneCell', splice, Int.reduceNeg, zvar1, chunks, depth, some_map, Nat.reduceBEq, cf_dyn, okU, Tryz.f15, rf15, ProgT.c]
        generalize hB : aloop _ _ _ _ _ _ _ _ _ _ _ = B
        obtain ⟨H3, hR3, eB⟩ := hbas _ _ _ _ hR2 hB (by simp only [R0, RC, zipEnv, Nat.reduceLT, Nat.reduceAdd, Nat.reduceEqDiff, Nat.reduceLeDiff, reduceCtorEq, ↓reduceIte, ares, aresult, pr, Int.reduceEq, Int.reduceLT, Int.reduceLE, Nat.reduceSub, Nat.reduceMul, aFieldAddr, aField, aLoad, aStore, aExtract, aBox, aint, rdVar, rdCells, Value.oneCell', splice, Int.reduceNeg, zvar1, chunks, depth, some_map, Nat.reduceBEq, cf_dyn, okU, Tryz.f15, rf15, D2.c, ProgT.c]; try rfl)
        rw [eB]
        obtain ⟨v, h2, x0, x1, x2, h0, hs0, hv, hrd⟩ := hR3.last
        simp only [R0, RC, zipEnv, Nat.reduceLT, Nat.reduceAdd, Nat.reduceEqDiff, Nat.reduceLeDiff, reduceCtorEq, ↓reduceIte, ares, aresult, pr, Int.reduceEq, Int.reduceLT, Int.reduceLE, Nat.reduceSub, Nat.reduceMul, aFieldAddr, aField, aLoad, aStore, aExtract, aBox, aint, rdVar, rdCells, Value.oneCell', splice, Int.reduceNeg, zvar1, chunks, depth, some_map, Nat.reduceBEq, cf_dyn, okU, Tryz.f15, rf15, ProgT.c, h2, h0, hv, hs0]
        exact ⟨_, _, rfl, hrd⟩
      | true =>
        have hu2 : pruneT D = used := by rw [← hu]; rfl
        rw [hu2, show mkL 2 (D.map D2.c) = mkL 2 (dRows D) from rfl, show mkL 2 (used.map D2.c) = mkL 2 (dRows used) from rfl] at hprune
        have hulen : (dRows used).length = used.length := by unfold dRows; simp
        obtain ⟨v', H', e1, q2, o1, o2, o3, hR⟩ := rew_first px op used p (c0 := [.sc (.slice none 0 0), .sc (.string .empty), .sc (.slice none 0 0)]) rfl
        have g1 := hR.book
        unfold heap4 row0 at e1
        have hout := fun (s0 : St) (R0 : Option (AX × St)) (jump : Code → Code → St → Option (AX × St)) (h : _) => rew_outer (jump := jump) (s0 := s0) (R := R0) R (k := k) (by omega) hR h
        have hbas := fun (s0 : St) (R0 : Option (AX × St)) (jump : Code → Code → St → Option (AX × St)) (H : List Blk) (hR : _) (h : _) => rew_base (jump := jump) (s0 := s0) (R := R0) (H := H) (rs := ask0 px used p :: used.flatMap (dmR px op used p)) R (k := k) (by omega) (by simp) (by
          have := flat_bound (px := px) (op := op) (used := used) R.body R.rules used
          have := R.usedS
          rw [List.length_cons]
          omega) hR h
        simp only [R0, RC, zipEnv, Nat.reduceLT, Nat.reduceAdd, Nat.reduceEqDiff, Nat.reduceLeDiff, reduceCtorEq, ↓reduceIte, ares, aresult, pr, Int.reduceEq, Int.reduceLT, Int.reduceLE, Nat.reduceSub, Nat.reduceMul, aFieldAddr, aField, aLoad, aStore, aExtract, aBox, aint, rdVar, rdCells, Value.oneCell', splice, Int.reduceNeg, zvar1, chunks, depth, some_map, Nat.reduceBEq, cf_dyn, okU, Tryz.f15, rf15, ProgT.c, hpre, ho, hd, hlen, hpos, hprune, hulen, huse, hfnd, hask, hgiv, e1, q2, o1, o2, o3, g1]
        generalize hA : aloop _ _ _ _ _ _ _ _ _ _ _ = A
        obtain ⟨H2, hR2, eA⟩ := hout _ _ _ hA (by simp only [R0, RC, zipEnv, Nat.reduceLT, Nat.reduceAdd, Nat.reduceEqDiff, Nat.reduceLeDiff, reduceCtorEq, ↓reduceIte, ares, aresult, pr, Int.reduceEq, Int.reduceLT, Int.reduceLE, Nat.reduceSub, Nat.reduceMul, aFieldAddr, aField, aLoad, aStore, aExtract, aBox, aint, rdVar, rdCells, Value.oneCell', splice, Int.reduceNeg, zvar1, chunks, depth, some_map, Nat.reduceBEq, cf_dyn, okU, Tryz.f15, rf15, D2.c, ProgT.c, hulen]; try rfl)
        rw [eA]
        simp only [R0, RC, zipEnv, Nat.reduceLT, Nat.reduceAdd, Nat.reduceEqDiff, Nat.reduceLeDiff, reduceCtorEq, ↓reduceIte, ares, aresult, pr, Int.reduceEq, Int.reduceLT, Int.reduceLE, Nat.reduceSub, Nat.reduceMul, aFieldAddr, aField, aLoad, aStore, aExtract, aBox, aint, rdVar, rdCells, Value.oneCell', splice, Int.reduceNeg, zvar1, chunks, depth, some_map, Nat.reduceBEq, cf_dyn, okU, Tryz.f15, rf15, ProgT.c]
        generalize hB : aloop _ _ _ _ _ _ _ _ _ _ _ = B
        obtain ⟨H3, hR3, eB⟩ := hbas _ _ _ _ hR2 hB (by simp only [R0, RC, zipEnv, Nat.reduceLT, Nat.reduceAdd, Nat.reduceEqDiff, Nat.reduceLeDiff, reduceCtorEq, ↓reduceIte, ares, aresult, pr, Int.reduceEq, Int.reduceLT, Int.reduceLE, Nat.reduceSub, Nat.reduceMul, aFieldAddr, aField, aLoad, aStore, aExtract, aBox, aint, rdVar, rdCells, Value.oneCell', splice, Int.reduceNeg, zvar1, chunks, depth, some_map, Nat.reduceBEq, cf_dyn, okU, Tryz.f15, rf15, D2.c, ProgT.c]; try rfl)
        rw [eB]
        obtain ⟨v, h2, x0, x1, x2, h0, hs0, hv, hrd⟩ := hR3.last
        simp only [R0, RC, zipEnv, Nat.reduceLT, Nat.reduceAdd, Nat.reduceEqDiff, Nat.reduceLeDiff, reduceCtorEq, ↓reduceIte, ares, aresult, pr, Int.reduceEq, Int.reduceLT, Int.reduceLE, Nat.reduceSub, Nat.reduceMul, aFieldAddr, aField, aLoad, aStore, aExtract, aBox, aint, rdVar, rdCells, Value.oneCell', splice, Int.reduceNeg, zvar1, chunks, depth, some_map, Nat.reduceBEq, cf_dyn, okU, Tryz.f15, rf15, ProgT.c, h2, h0, hv, hs0]
        exact ⟨_, _, rfl, hrd⟩
    obtain ⟨v', H', e, hr⟩ := key
    exact valD_of e hr
end Go.Proofs.YtpgipdajinkdgaaGreatA
