/- (magic.book).rules, run. -/
import Derived.Test.YtpgipdajinkdgaaGreatM4
namespace Go.Proofs.YtpgipdajinkdgaaGreatA
open Go Go.RowKit
set_option linter.all false
set_option linter.unusedSectionVars false
set_option linter.constructorNameAsVariable false
set_option linter.unusedVariables false
set_option linter.unusedSimpArgs false
def litBlk (l : LitT) : Blk := ⟨54, 17, 0, false, l.c, .cells⟩
theorem OutR.keepL {H H' : List Blk} {v : AV} {rows : List (List AV)} {out : List RuleT} {e : Nat} {l : LitT} (h : OutR H v rows out) (he : H[e]? = some (litBlk l)) (hk : ∀ c, c ≠ 0 → c ≠ e → c < H.length → H'[c]? = H[c]?) : OutR H' v rows out := by
  refine ⟨?_, h.len, fun i w r hw hr => ?_, h.pos⟩
  · rcases h.top with ⟨h1, h2⟩ | ⟨h1, b, ver, h2, h3⟩
    · exact .inl ⟨h1, h2⟩
    · refine .inr ⟨h1, b, ver, h2, ?_⟩
      rw [hk b (fun e => h.pos (by rw [h2, e]; rfl)) (fun e2 => ?_) (List.getElem?_eq_some_iff.1 h3).1]
      · exact h3
      · rw [e2, he] at h3
        have := congrArg (fun x : Option Blk => (x.map Blk.elem).getD 0) h3
        simp [litBlk] at this
  · obtain ⟨f, b, h1, h2, h3, h4⟩ := h.row i w r hw hr
    refine ⟨f, b, h1, ?_, h3, h4⟩
    rw [hk b h3 (fun e2 => ?_) (List.getElem?_eq_some_iff.1 h2).1]
    · exact h2
    · rw [e2, he] at h2
      have := congrArg (fun x : Option Blk => (x.map Blk.kind)) h2
      simp [litBlk, aliBlk] at this
theorem useD_mem {used : List D2} {d : D2} {P : D2 → Prop} (h : ∀ x ∈ used, P x) (h0 : P dz) : P (useD used d).1 := by
  unfold useD
  cases hf : used.findIdx? (fun x => covD x d) with
  | none => exact h0
  | some i =>
    obtain ⟨hlt, _⟩ := List.findIdx?_eq_some_iff_getElem.1 hf
    simp only [List.getElem?_eq_getElem hlt, Option.getD_some]
    exact h _ (List.getElem_mem _)
theorem app0 {H : List Blk} {x : Blk} {y : Blk} (h : H[0]? = some y) : (H ++ [x])[0]? = some y := by
  rw [List.getElem?_append_left (List.getElem?_eq_some_iff.1 h).1]
  exact h
theorem amap_app {f : AV → Option AV} : ∀ {xs ys a b : List AV}, amap f xs = some a → amap f ys = some b → amap f (xs ++ ys) = some (a ++ b)
  | [], ys, a, b, h1, h2 => by
    simp only [amap, Option.some.injEq] at h1
    subst h1
    exact h2
  | x :: xs, ys, a, b, h1, h2 => by
    simp only [amap] at h1
    split at h1 <;> try (cases h1; done)
    rename_i y ys' hx hxs
    cases h1
    have := amap_app hxs h2
    simp only [List.cons_append, amap, hx, this]
theorem amap_flat {f : AV → Option AV} : ∀ {rows tgt : List (List AV)}, rows.length = tgt.length → (∀ (i : Nat) w y, rows[i]? = some w → tgt[i]? = some y → amap f w = some y) → amap f rows.flatten = some tgt.flatten
  | [], [], _, _ => rfl
  | [], _ :: _, h, _ => by simp at h
  | _ :: _, [], h, _ => by simp at h
  | w :: rows, y :: tgt, h, hr => by
    rw [List.flatten_cons, List.flatten_cons]
    exact amap_app (hr 0 w y rfl rfl) (amap_flat (by simpa using h) fun i a b ha hb => hr (i + 1) a b (by simpa using ha) (by simpa using hb))
theorem rb_rows {e : TypeId} {sz k : Nat} {H : List Blk} {v : AV} {rows tgt : List (List AV)} (h : OutAt e sz H v rows) (hlen : rows.length = tgt.length) (hw : ∀ r ∈ rows, r.length = sz) (hy : ∀ r ∈ tgt, r.length = sz) (hr : ∀ (i : Nat) w y, rows[i]? = some w → tgt[i]? = some y → amap (rb H (k + 1)) w = some y) : rb H (k + 2) v = some (mkL sz tgt) := by
  rcases h with ⟨rfl, rfl⟩ | ⟨hne, b, ver, rfl, hk⟩
  · obtain rfl : tgt = [] := List.eq_nil_of_length_eq_zero (by simpa using hlen.symm)
    rfl
  · have e : rb H (k + 2) (.own b 0 rows.length sz ver) = (match blkR H b ver with
      | some blk => match rdCells blk.cells (0 * sz) (rows.length * sz) with
        | some cs => (amap (rb H (k + 1)) cs).map fun l => mkL sz (chunks sz rows.length l)
        | none => none
      | none => none) := rfl
    rw [e, blkR_some' hk rfl rfl]
    simp only [rdCells, Nat.zero_mul, Nat.zero_add, flat_len' hw, Nat.le_refl, if_true, List.drop_zero]
    rw [← flat_len' hw, List.take_length, amap_flat hlen hr]
    simp only [Option.map_some]
    rw [hlen, chunks_flat' hy]
theorem rb_lits {H : List Blk} {L : List LitT} {b ver k : Nat} {blk : Blk} (h : blkR H b ver = some blk) (hc : blk.cells = (L.map LitT.c).flatten) : rb H (k + 2) (.own b 0 L.length 17 ver) = some (mkL 17 (L.map LitT.c)) := by
  have e : rb H (k + 2) (.own b 0 L.length 17 ver) = (match blkR H b ver with
      | some blk => match rdCells blk.cells (0 * 17) (L.length * 17) with
        | some cs => (amap (rb H (k + 1)) cs).map fun l => mkL 17 (chunks 17 L.length l)
        | none => none
      | none => none) := rfl
  have hl := lits_len L
  rw [e, h]
  simp only [rdCells, Nat.zero_mul, Nat.zero_add, hc, hl, Nat.le_refl, if_true, List.drop_zero]
  rw [← hl, List.take_length, amap_stays (fun x hx => by
    obtain ⟨r, hr, hx⟩ := List.mem_flatten.1 hx
    obtain ⟨l, _, rfl⟩ := List.mem_map.1 hr
    exact lit_stays l x hx)]
  simp only [Option.map_some]
  have := chunks_flat' (sz := 17) (rows := L.map LitT.c) lit_row
  rw [List.length_map] at this
  rw [this]
theorem rowA_rb {H : List Blk} {r : RuleT} {b k : Nat} (hf : r.fold = 0) (hb : H[b]? = some (aliBlk r.body)) : amap (rb H (k + 2)) (rowA r b) = some r.c := by
  have h1 : rb H (k + 2) (.own b 0 r.body.length 17 0) = some (mkL 17 (r.body.map LitT.c)) := rb_lits (blkR_ali hb rfl rfl) rfl
  have h2 : rb H (k + 2) (mkL 4 (tRows r.head.args)) = some (mkL 4 (tRows r.head.args)) := rb_mkL (k := k + 1)
  have h3 : rb H (k + 2) (.sc (.string r.head.p)) = some (.sc (.string r.head.p)) := rfl
  have h4 : rb H (k + 2) (.sc (.int .i64 0)) = some (.sc (.int .i64 0)) := rfl
  unfold rowA RuleT.c
  rw [hf]
  simp only [amap, h1, h2, h3, h4]
structure RulI (px : ByteArray) (op : List ByteArray) (used : List D2) (x : RuleT) (d : D2) (j : Nat) (s : St) : Prop where
  ex : ∃ L B out v rows H, (x.body.take j).foldl (rulS px op used) (rul0 px x d) = (L, B, out) ∧ H[0]? = some (appBlk L) ∧ 0 < L.length ∧ OutR H v rows out ∧
    s = ⟨[(3, .ro [.sc (.string px), mkL 1 (sRows op), mkL 2 (dRows used)]), (4, .ro x.c), (5, .ro d.c), (9, .own 0 0 L.length 17 (L.length - 1)), (10, mkL 1 (sRows B)), (11, v), (33, mkL 17 (x.body.map LitT.c)), (34, .sc (.int .i64 x.body.length)), (35, .sc (.int .i64 (j : Nat)))], H⟩
set_option maxHeartbeats 4000000 in
theorem rules_run (px : ByteArray) (op : List ByteArray) (used : List D2) (x : RuleT) (d : D2) (hpx : px.size ≤ 10000000000000000) (hop : op.length ≤ 1000) (hu : used.length ≤ 1000) (hs : ∀ u ∈ used, u.1.size ≤ 10000000000000000 ∧ u.2.size ≤ 1000) (hd : d.1.size ≤ 10000000000000000 ∧ d.2.size ≤ 1000) (hxa : x.head.args.length ≤ 10) (hb : x.body.length ≤ 10) (hba : ∀ l ∈ x.body, l.a.args.length ≤ 10) (k : Nat) (hk : 1000400 ≤ k) :
    valD Tryz.prog cf k 30 [.agg [.sc (.string px), mkL 1 (sRows op), mkL 2 (dRows used)], .agg x.c, .agg d.c] = some (mkL 4 ((rulesT px op used x d).map RuleT.c)) := by
  obtain ⟨k, rfl⟩ : ∃ j, k = j + 1 := ⟨k - 1, by omega⟩
  have hgl : (givenT x.head.args d.2).length ≤ 10 := by
    unfold givenT givenN
    refine Nat.le_trans (List.length_filterMap_le _ _) (Nat.le_trans (List.length_filter_le _ _) ?_)
    simp
    omega
  have hgiv := given_run x.head d.2 (by omega) k (by omega)
  have hask := asked_run px d (by omega) (by omega) (by omega) k (by omega)
  have hhol := holds_run (askS px d) (givenT x.head.args d.2) k (by omega)
  have hvar := vars_run (guardT px x d) (Nat.le_trans hgl (by omega)) k (by omega)
  have hfnd := found_run px d (by omega) (by omega) (by omega) k (by omega)
  have key : ∃ (v' : AV) (H' : List Blk), arun Tryz.prog cf (k + 1) 30 [.agg [.sc (.string px), mkL 1 (sRows op), mkL 2 (dRows used)], .agg x.c, .agg d.c] [] = some (v', H') ∧ rb H' depth v' = some (mkL 4 ((rulesT px op used x d).map RuleT.c)) := by
    rw [arun_body rfl rfl Tryz.func30 rfl (N := 105) rfl]
    have hw := wraps (n := x.body.length) (by omega)
    simp only [AtomT.c, D2.c] at hgiv hask hfnd
    have m4 : mkL 4 (tRows (givenT x.head.args d.2)) = mkL 4 ((givenT x.head.args d.2).map TermT.c) := rfl
    have hg : guardT px x d = holdsT (askS px d) (givenT x.head.args d.2) := rfl
    rw [hg] at hvar
    simp only [LitT.c] at hhol hvar
    simp only [R0, RC, zipEnv, Nat.reduceLT, Nat.reduceAdd, Nat.reduceEqDiff, Nat.reduceLeDiff, reduceCtorEq, ↓reduceIte, ares, aresult, pr, Int.reduceEq, Int.reduceLT, Int.reduceLE, Nat.reduceSub, Nat.reduceMul, aFieldAddr, aField, aLoad, aStore, aExtract, aBox, aint, rdVar, rdCells, Value.oneCell', splice, Int.reduceNeg, zvar1, chunks, depth, some_map, Nat.reduceBEq, cf_dyn, okU, Tryz.f30, rf30, RuleT.c, D2.c, AtomT.c, hgiv, hask, hhol, hvar]
    generalize hA : aloop _ _ _ _ _ _ _ _ _ _ _ = A
    obtain ⟨s, hI, e1⟩ := aloop_inv2 hA [3, 4, 5, 9, 10, 11, 33, 34, 35] (RulI px op used x d) x.body.length (by omega) rfl
      ⟨_, _, _, .sc (.slice none 0 0), [], _, rfl, rfl, by simp, OutR.nil, by
        simp only [R0, RC, zipEnv, Nat.reduceLT, Nat.reduceAdd, Nat.reduceEqDiff, Nat.reduceLeDiff, reduceCtorEq, ↓reduceIte, ares, aresult, pr, Int.reduceEq, Int.reduceLT, Int.reduceLE, Nat.reduceSub, Nat.reduceMul, aFieldAddr, aField, aLoad, aStore, aExtract, aBox, aint, rdVar, rdCells, Value.oneCell', splice, Int.reduceNeg, zvar1, chunks, depth, some_map, Nat.reduceBEq, cf_dyn, okU, Tryz.f30, rf30, D2.c, RuleT.c, AtomT.c, LitT.c]
        rfl⟩
      (fun j hj s ⟨L, B, out, v, rows, H, hf, h0, hL, hO, hs0⟩ => by
        subst hs0
        obtain ⟨l, hl⟩ : ∃ l, l = x.body[j] := ⟨_, rfl⟩
        have xj : x.body[j]? = some l := by rw [hl]; exact List.getElem?_eq_getElem hj
        have hla := hba l (List.mem_of_getElem? xj)
        have hstep : (x.body.take (j + 1)).foldl (rulS px op used) (rul0 px x d) = rulS px op used (L, B, out) l := by
          rw [List.take_succ_eq_append_getElem hj, List.foldl_append, ← hl, hf]
          rfl
        obtain ⟨b1, b2, b3⟩ := rulS_len (px := px) (op := op) (used := used) (m := 10) (x.body.take j) (rul0 px x d) fun y hy => hba y (List.mem_of_mem_take hy)
        rw [hf, List.length_take] at b1 b2 b3
        have b4 := bindsT_len (guardT px x d) []
        have b5 : (guardT px x d).a.args = givenT x.head.args d.2 := rfl
        rw [b5] at b4
        have b6 : (rul0 px x d).1.length = 1 := rfl
        have b7 : (rul0 px x d).2.1 = bindsT (guardT px x d) [] := rfl
        have b8 : (rul0 px x d).2.2 = [] := rfl
        rw [b6] at b1
        rw [b7] at b2
        rw [b8] at b3
        simp only [List.length_nil] at b1 b2 b3 b4
        have hLl : L.length ≤ 1000 := by omega
        have hBl : B.length ≤ 1000 := by omega
        have hH : 0 < H.length := (List.getElem?_eq_some_iff.1 h0).1
        have hcon := containsS_run op l.a.p (by omega) k (by omega)
        have hbi := binds_run l B (by omega) (by omega) k (by omega)
        have m2 : mkL 1 (sRows op) = mkL 1 (op.map sC) := rfl
        have h01 := app0 (x := litBlk l) h0
        have happ := app_app (m := l) h01 hL (by omega)
        have hset : ∀ y, (H ++ [litBlk l]).set H.length y = H ++ [y] := fun y => set_last
        unfold litBlk at happ h01 hset
        simp only [LitT.c] at hbi happ h01 hset
        by_cases hin : (decide (l.k = 1) && inS op l.a.p) = true
        · have hk1 : l.k = 1 := by
            simp only [Bool.and_eq_true, decide_eq_true_eq] at hin
            exact hin.1
          have hin2 : inS op l.a.p = true := by
            simp only [Bool.and_eq_true] at hin
            exact hin.2
          obtain ⟨u, hud⟩ : ∃ u, u = (useD used (l.a.p, patS B l.a.args)).1 := ⟨_, rfl⟩
          have hub : u.1.size ≤ 10000000000000000 ∧ u.2.size ≤ 1000 := by
            rw [hud]
            exact useD_mem (P := fun z => z.1.size ≤ 10000000000000000 ∧ z.2.size ≤ 1000) hs ⟨by decide, by decide⟩
          have huse := bookUse_run px op used l.a B hu (fun z hz => (hs z hz).2) (by omega) (by omega) k (by omega)
          rw [← hud] at huse
          have haskU := asked_run px u (by omega) (by omega) (by omega) k (by omega)
          have hgivU := given_run l.a u.2 (by omega) k (by omega)
          have hfndU := found_run px u (by omega) (by omega) (by omega) k (by omega)
          have hholU := holds_run (foundS px u) l.a.args k (by omega)
          obtain ⟨m, hm⟩ : ∃ m, m = holdsT (foundS px u) l.a.args := ⟨_, rfl⟩
          rw [← hm] at hholU
          obtain ⟨r, hr⟩ : ∃ r : RuleT, r = ⟨⟨askS px u, givenT l.a.args u.2⟩, 0, L⟩ := ⟨_, rfl⟩
          have hnext : (x.body.take (j + 1)).foldl (rulS px op used) (rul0 px x d) = (L ++ [m], bindsT l B, out ++ [r]) := by
            rw [hstep]
            unfold rulS
            rw [if_pos hin, hm, hr, hud]
          have hsl := fun ρ o => sl3_app (H := H ++ [litBlk l]) (ρ := ρ) (o := o) (q := .i64) (q' := .i64) (app0 h0) hL
          have hvH : ∀ c, blkB v = some c → c < H.length := fun c hc => blkB_lt hO.top hc
          obtain ⟨H3, hH3⟩ : ∃ H3, H3 = H ++ [litBlk l] ++ [aliBlk L] ++ [⟨50, 4, 0, true, rowA r (H ++ [litBlk l]).length, .cells⟩] := ⟨_, rfl⟩
          have hO3 : OutR H3 v rows out := hO.keep fun c _ hc => by
            rw [hH3, List.append_assoc, List.append_assoc, List.getElem?_append_left hc]
          have g1 : H3[(H ++ [litBlk l]).length]? = some (aliBlk L) := by
            rw [hH3, List.getElem?_append_left (by simp), List.getElem?_concat_length]
          have g2 : H3[(H ++ [litBlk l] ++ [aliBlk L]).length]? = some ⟨50, 4, 0, true, rowA r (H ++ [litBlk l]).length, .cells⟩ := by
            rw [hH3, List.getElem?_concat_length]
          have g3 : H3[H.length]? = some (litBlk l) := by
            rw [hH3, List.getElem?_append_left (by simp), List.getElem?_append_left (by simp), List.getElem?_concat_length]
          have g4 : H3[0]? = some (appBlk L) := by
            rw [hH3]
            exact app0 (app0 (app0 h0))
          have hrf : r.fold = 0 := by rw [hr]
          have hrb : r.body = L := by rw [hr]
          obtain ⟨v', H4, e4, hO4, hl4, hk4⟩ := hO3.push (r := r) (b := (H ++ [litBlk l]).length) (bt := (H ++ [litBlk l] ++ [aliBlk L]).length) hrf (by rw [hrb]; exact fun e => by rw [e] at hL; simp at hL) (by rw [hrb]; exact g1) (by simp) (fun e => by have := hvH _ e; rw [List.length_append, List.length_singleton] at this; omega) (by rw [hH3]; simp) g2 (by omega)
          have q1 : H4[H.length]? = some (litBlk l) := by
            rw [hk4 H.length (by rw [hH3]; simp) (fun e => by have := hvH _ e; omega)]
            exact g3
          have q2 : H4[0]? = some (appBlk L) := by
            rw [hk4 0 (by rw [hH3]; simp) hO.pos]
            exact g4
          have hl5 : H.length < H4.length := by rw [hH3] at hl4; simp at hl4; omega
          have q3 : (H4.set H.length (litBlk m))[H.length]? = some (litBlk m) := List.getElem?_set_self hl5
          have q4 : (H4.set H.length (litBlk m))[0]? = some (appBlk L) := by
            rw [List.getElem?_set_ne (by omega)]
            exact q2
          have happ5 := app_app (m := m) q4 hL (by omega)
          have hfin : RulI px op used x d (j + 1) ⟨[(3, .ro [.sc (.string px), mkL 1 (sRows op), mkL 2 (dRows used)]), (4, .ro x.c), (5, .ro d.c), (9, .own 0 0 (L ++ [m]).length 17 ((L ++ [m]).length - 1)), (10, mkL 1 (sRows (bindsT l B))), (11, v'), (33, mkL 17 (x.body.map LitT.c)), (34, .sc (.int .i64 x.body.length)), (35, .sc (.int .i64 ((j + 1 : Nat) : Int)))], (H4.set H.length (litBlk m)).set 0 (appBlk (L ++ [m]))⟩ := by
            refine ⟨L ++ [m], bindsT l B, out ++ [r], v', rows ++ [rowA r (H ++ [litBlk l]).length], _, hnext, ?_, by simp, ?_, rfl⟩
            · rw [List.getElem?_set_self (by rw [List.length_set]; omega)]
            · exact hO4.keepL q1 fun c h1 h2 _ => by
                rw [List.getElem?_set_ne (Ne.symm h1), List.getElem?_set_ne (Ne.symm h2)]
          rw [hin2] at hcon
          rw [hH3] at e4
          have hrow : rowA r (H ++ [litBlk l]).length = [.sc (.string (askS px u)), mkL 4 (tRows (givenT l.a.args u.2)), .sc (.int .i64 0), .own (H ++ [litBlk l]).length 0 L.length 17 0] := by rw [hr]; rfl
          rw [hrow] at e4
          unfold litBlk at e4 hsl q1 q3 happ5 hfin
          simp only [LitT.c, AtomT.c, D2.c] at e4 hsl q1 q3 happ5 hholU huse haskU hgivU hfndU
          rw [hk1] at happ hbi h01 hset e4 hsl q1
          exact ⟨_, by
            simp only [R0, RC, zipEnv, Nat.reduceLT, Nat.reduceAdd, Nat.reduceEqDiff, Nat.reduceLeDiff, reduceCtorEq, ↓reduceIte, ares, aresult, pr, Int.reduceEq, Int.reduceLT, Int.reduceLE, Nat.reduceSub, Nat.reduceMul, aFieldAddr, aField, aLoad, aStore, aExtract, aBox, aint, rdVar, rdCells, Value.oneCell', splice, Int.reduceNeg, zvar1, chunks, depth, some_map, Nat.reduceBEq, cf_dyn, okU, Tryz.f30, rf30, RuleT.c, D2.c, AtomT.c, LitT.c, hj, xj, hw j hj, m2, hk1, hcon, hbi, set_last, List.getElem?_concat_length, huse, haskU, hgivU, hfndU, hholU, aop_slice3, hsl, e4, q1, q3, happ5], hfin⟩
        · have hc : (decide (l.k = 1) && inS op l.a.p) = false := by simpa using hin
          have fin : ∀ b : Blk, RulI px op used x d (j + 1) ⟨[(3, .ro [.sc (.string px), mkL 1 (sRows op), mkL 2 (dRows used)]), (4, .ro x.c), (5, .ro d.c), (9, .own 0 0 (L ++ [l]).length 17 ((L ++ [l]).length - 1)), (10, mkL 1 (sRows (bindsT l B))), (11, v), (33, mkL 17 (x.body.map LitT.c)), (34, .sc (.int .i64 x.body.length)), (35, .sc (.int .i64 ((j + 1 : Nat) : Int)))], (H ++ [b]).set 0 (appBlk (L ++ [l]))⟩ := fun b => by
            refine ⟨L ++ [l], bindsT l B, out, v, rows, _, ?_, ?_, ?_, ?_, rfl⟩
            · rw [hstep]
              unfold rulS
              rw [if_neg hin]
            · rw [List.getElem?_set_self (by simp)]
            · simp
            · exact hO.keep fun c hc hcl => by
                rw [List.getElem?_set_ne (Ne.symm hc), List.getElem?_append_left hcl]
          by_cases hk1 : l.k = 1
          · have hin2 : inS op l.a.p = false := by rw [hk1] at hc; simpa using hc
            rw [hin2] at hcon
            rw [hk1] at happ hbi h01 hset
            exact ⟨_, by
              simp only [R0, RC, zipEnv, Nat.reduceLT, Nat.reduceAdd, Nat.reduceEqDiff, Nat.reduceLeDiff, reduceCtorEq, ↓reduceIte, ares, aresult, pr, Int.reduceEq, Int.reduceLT, Int.reduceLE, Nat.reduceSub, Nat.reduceMul, aFieldAddr, aField, aLoad, aStore, aExtract, aBox, aint, rdVar, rdCells, Value.oneCell', splice, Int.reduceNeg, zvar1, chunks, depth, some_map, Nat.reduceBEq, cf_dyn, okU, Tryz.f30, rf30, RuleT.c, D2.c, AtomT.c, LitT.c, hj, xj, hw j hj, m2, hk1, hcon, hbi, happ, set_last, List.getElem?_concat_length]
              rfl, fin _⟩
          · exact ⟨_, by
              simp only [R0, RC, zipEnv, Nat.reduceLT, Nat.reduceAdd, Nat.reduceEqDiff, Nat.reduceLeDiff, reduceCtorEq, ↓reduceIte, ares, aresult, pr, Int.reduceEq, Int.reduceLT, Int.reduceLE, Nat.reduceSub, Nat.reduceMul, aFieldAddr, aField, aLoad, aStore, aExtract, aBox, aint, rdVar, rdCells, Value.oneCell', splice, Int.reduceNeg, zvar1, chunks, depth, some_map, Nat.reduceBEq, cf_dyn, okU, Tryz.f30, rf30, RuleT.c, D2.c, AtomT.c, LitT.c, hj, xj, hw j hj, m2, hk1, hcon, hbi, happ, set_last, List.getElem?_concat_length]
              rfl, fin _⟩)
      (fun s ⟨L, B, out, v, rows, H, hf, h0, hL, hO, hs0⟩ => by
        subst hs0
        simp only [R0, RC, zipEnv, Nat.reduceLT, Nat.reduceAdd, Nat.reduceEqDiff, Nat.reduceLeDiff, reduceCtorEq, ↓reduceIte, ares, aresult, pr, Int.reduceEq, Int.reduceLT, Int.reduceLE, Nat.reduceSub, Nat.reduceMul, aFieldAddr, aField, aLoad, aStore, aExtract, aBox, aint, rdVar, rdCells, Value.oneCell', splice, Int.reduceNeg, zvar1, chunks, depth, some_map, Nat.reduceBEq, cf_dyn, okU, Tryz.f30, rf30])
    obtain ⟨L, B, out, v, rows, H, hf, h0, hL, hO, rfl⟩ := hI
    rw [List.take_length] at hf
    rw [e1]
    obtain ⟨row, hrow⟩ : ∃ row : List AV, row = [.sc (.string (foundS px d)), mkL 4 (x.head.args.map TermT.c), .sc (.int .i64 0), .own 0 0 L.length 17 (L.length - 1)] := ⟨_, rfl⟩
    have hO2 : OutR (H ++ [⟨50, 4, 0, true, row, .cells⟩]) v rows out := hO.keep fun c _ hc => by rw [List.getElem?_append_left hc]
    have ht : (H ++ [⟨50, 4, 0, true, row, .cells⟩])[H.length]? = some ⟨50, 4, 0, true, row, .cells⟩ := List.getElem?_concat_length
    have hel : ∀ z, elems (H ++ [⟨50, 4, 0, true, row, .cells⟩]) (.own H.length 0 1 4 0) z = elems (H ++ [⟨50, 4, 0, true, row, .cells⟩]) (mkL 4 [row]) z := fun z => by
      simp only [elems, mkL]
      rw [blkAt_some' ht rfl rfl]
      by_cases hz : 4 = z
      · subst hz; rw [hrow]; rfl
      · simp [hz]
    have hol : out.length ≤ 1000 := by
      obtain ⟨_, _, b3⟩ := rulS_len (px := px) (op := op) (used := used) (m := 10) x.body (rul0 px x d) hba
      rw [hf] at b3
      have b8 : (rul0 px x d).2.2 = [] := rfl
      rw [b8] at b3
      simp only [List.length_nil] at b3
      omega
    obtain ⟨v', H', e2, o2, l2, k2, s2⟩ := appF (r := row) ro38 hO2.top hO2.rowLen (by rw [hrow]; rfl) (by rw [hrow]; simp [one_mkL, one_sc, Value.oneCell']; rfl) (by rw [hO2.len]; omega) (by rw [hO2.len]; unfold maxLen; omega)
    rw [← app_sameM hel] at e2
    have k0 : H'[0]? = some (appBlk L) := by
      rw [k2 0 (by simp) hO2.pos]
      exact app0 h0
    refine ⟨v', H', ?_, ?_⟩
    · rw [hrow] at e2
      simp only [R0, RC, zipEnv, Nat.reduceLT, Nat.reduceAdd, Nat.reduceEqDiff, Nat.reduceLeDiff, reduceCtorEq, ↓reduceIte, ares, aresult, pr, Int.reduceEq, Int.reduceLT, Int.reduceLE, Nat.reduceSub, Nat.reduceMul, aFieldAddr, aField, aLoad, aStore, aExtract, aBox, aint, rdVar, rdCells, Value.oneCell', splice, Int.reduceNeg, zvar1, chunks, depth, some_map, Nat.reduceBEq, cf_dyn, okU, Tryz.f30, rf30, RuleT.c, D2.c, AtomT.c, LitT.c, hfnd, e2]
    · have htgt : (rulesT px op used x d).map RuleT.c = out.map RuleT.c ++ [[.sc (.string (foundS px d)), mkL 4 (x.head.args.map TermT.c), .sc (.int .i64 0), mkL 17 (L.map LitT.c)]] := by
        unfold rulesT
        rw [hf, List.map_append]
        rfl
      rw [htgt]
      refine rb_rows (k := 38) o2 (by simp [hO2.len]) (fun r hr => ?_) (fun r hr => ?_) (fun i w y hw hy => ?_)
      · rcases List.mem_append.1 hr with h | h
        · exact hO2.rowLen r h
        · rw [List.mem_singleton] at h
          rw [h, hrow]
          rfl
      · rcases List.mem_append.1 hr with h | h
        · obtain ⟨q, _, rfl⟩ := List.mem_map.1 h
          rfl
        · rw [List.mem_singleton] at h
          rw [h]
          rfl
      · rcases Nat.lt_or_ge i rows.length with hi | hi
        · rw [List.getElem?_append_left hi] at hw
          rw [List.getElem?_append_left (by rw [List.length_map]; have := hO2.len; omega), List.getElem?_map] at hy
          obtain ⟨q, hq, rfl⟩ := Option.map_eq_some_iff.1 hy
          obtain ⟨f, b, h1, h2, h3, h4, h5⟩ := hO2.row i w q hw hq
          rw [h1]
          refine rowA_rb (k := 37) f ?_
          rw [k2 b (List.getElem?_eq_some_iff.1 h2).1 h4]
          exact h2
        · have hlt := (List.getElem?_eq_some_iff.1 hw).1
          rw [List.length_append, List.length_singleton] at hlt
          obtain rfl : i = rows.length := by omega
          rw [List.getElem?_concat_length] at hw
          have hle : rows.length = (out.map RuleT.c).length := by rw [List.length_map]; exact hO2.len
          rw [hle, List.getElem?_concat_length] at hy
          obtain rfl := Option.some.inj hw
          obtain rfl := Option.some.inj hy
          rw [hrow]
          have h1 : rb H' (37 + 2) (.own 0 0 L.length 17 (L.length - 1)) = some (mkL 17 (L.map LitT.c)) := rb_lits (blkR_app k0 rfl rfl) rfl
          have h2 : rb H' (37 + 2) (mkL 4 (x.head.args.map TermT.c)) = some (mkL 4 (x.head.args.map TermT.c)) := rb_mkL (k := 38)
          have h3 : rb H' (37 + 2) (.sc (.string (foundS px d))) = some (.sc (.string (foundS px d))) := rfl
          have h4 : rb H' (37 + 2) (.sc (.int .i64 0)) = some (.sc (.int .i64 0)) := rfl
          show amap (rb H' (37 + 2)) _ = _
          simp only [amap, h1, h2, h3, h4]
  obtain ⟨v', H', e, hr⟩ := key
  exact valD_of e hr
end Go.Proofs.YtpgipdajinkdgaaGreatA

namespace Go.Proofs.YtpgipdajinkdgaaGreatA
open Go Go.RowKit
set_option linter.all false
set_option linter.unusedSectionVars false
set_option linter.constructorNameAsVariable false
set_option linter.unusedVariables false
set_option linter.unusedSimpArgs false
theorem rule_stays (r : RuleT) : ∀ x ∈ r.c, Stays x := fun x hx => by
  simp only [RuleT.c, List.mem_cons, List.not_mem_nil, or_false] at hx
  rcases hx with rfl | rfl | rfl | rfl
  all_goals first | exact stays_int | exact stays_str | exact stays_mkL
def derQ (s : ByteArray) (r : RuleT) : Bool := decide (r.head.p = s) && decide (0 < r.body.length)
def derB (p : ProgT) (s : ByteArray) : Bool := p.rules.any (derQ s)
theorem der1_run (r : RuleT) (s : ByteArray) (k : Nat) (hk : 1 ≤ k) : val Tryz.prog cf k 33 [.agg r.c, .ro [.sc (.string s)]] = some (.sc (.bool (derQ s r))) := by
  obtain ⟨k, rfl⟩ : ∃ j, k = j + 1 := ⟨k - 1, by omega⟩
  refine val_of (r := .sc (.bool (derQ s r))) (H1 := []) ?_ rfl rfl
  rw [arun_body rfl rfl Tryz.func33 rfl (N := 15) rfl]
  unfold derQ
  by_cases h : r.head.p = s
  · have hp : ((0 : Int) < (r.body.length : Int)) = (0 < r.body.length) := propext (by omega)
    simp only [R0, RC, zipEnv, Nat.reduceLT, Nat.reduceAdd, Nat.reduceEqDiff, Nat.reduceLeDiff, reduceCtorEq, ↓reduceIte, ares, aresult, pr, Int.reduceEq, Int.reduceLT, Int.reduceLE, Nat.reduceSub, Nat.reduceMul, aFieldAddr, aField, aLoad, aStore, aExtract, aBox, aint, rdVar, rdCells, Value.oneCell', splice, Int.reduceNeg, zvar1, chunks, depth, some_map, Nat.reduceBEq, cf_dyn, okU, Tryz.f33, rf33, RuleT.c, h, hp]
  · simp only [R0, RC, zipEnv, Nat.reduceLT, Nat.reduceAdd, Nat.reduceEqDiff, Nat.reduceLeDiff, reduceCtorEq, ↓reduceIte, ares, aresult, pr, Int.reduceEq, Int.reduceLT, Int.reduceLE, Nat.reduceSub, Nat.reduceMul, aFieldAddr, aField, aLoad, aStore, aExtract, aBox, aint, rdVar, rdCells, Value.oneCell', splice, Int.reduceNeg, zvar1, chunks, depth, some_map, Nat.reduceBEq, cf_dyn, okU, Tryz.f33, rf33, RuleT.c, h]
theorem idxR_gen {g : FuncId} {caps : List AV} (L : List RuleT) (q : RuleT → Bool) (hl : L.length ≤ 100000) (k : Nat) (hk : 100005 ≤ k)
    (hc : ∀ s ∈ L, ∀ strict, callR Tryz.prog (acall cf.mode strict (arun Tryz.prog cf (k - 1))) [] (.fn g caps) [.agg s.c] = some (.sc (.bool (q s)), [])) :
    val Tryz.prog cf k 62 [mkL 4 (L.map RuleT.c), .fn g caps] = some (.sc (.int .i64 (idxOf L q))) := by
  obtain ⟨k, rfl⟩ : ∃ j, k = j + 1 := ⟨k - 1, by omega⟩
  rw [Nat.add_sub_cancel] at hc
  refine val_of (r := .sc (.int .i64 (idxOf L q))) (H1 := []) ?_ rfl rfl
  rw [arun_body rfl rfl Tryz.func62 rfl (N := 19) rfl]
  have hw := wraps (n := L.length) (by omega)
  simp only [RuleT.c] at hc
  simp only [R0, RC, zipEnv, Nat.reduceLT, Nat.reduceAdd, Nat.reduceEqDiff, Nat.reduceLeDiff, reduceCtorEq, ↓reduceIte, ares, aresult, pr, Int.reduceEq, Int.reduceLT, Int.reduceLE, Nat.reduceSub, Nat.reduceMul, aFieldAddr, aField, aLoad, aStore, aExtract, aBox, aint, rdVar, rdCells, Value.oneCell', splice, Int.reduceNeg, zvar1, chunks, depth, some_map, Nat.reduceBEq, cf_dyn, okU, Tryz.f62, rf62]
  generalize hA : aloop _ _ _ _ _ _ _ _ _ _ _ = A
  rcases aloop_list hA [0, 1, 7, 8] (fun j => ⟨[(0, mkL 4 (L.map RuleT.c)), (1, .fn g caps), (7, .sc (.int .i64 L.length)), (8, .sc (.int .i64 (j : Nat)))], []⟩) L q (by omega) rfl rfl (fun j x hj hx hqx => by
      simp only [R0, RC, zipEnv, Nat.reduceLT, Nat.reduceAdd, Nat.reduceEqDiff, Nat.reduceLeDiff, reduceCtorEq, ↓reduceIte, ares, aresult, pr, Int.reduceEq, Int.reduceLT, Int.reduceLE, Nat.reduceSub, Nat.reduceMul, aFieldAddr, aField, aLoad, aStore, aExtract, aBox, aint, rdVar, rdCells, Value.oneCell', splice, Int.reduceNeg, zvar1, chunks, depth, some_map, Nat.reduceBEq, cf_dyn, okU, Tryz.f62, rf62, RuleT.c, hj, hx, hw j hj, hc x (List.mem_of_getElem? hx), hqx]) (fun j x hj hx hqx => by
      simp only [R0, RC, zipEnv, Nat.reduceLT, Nat.reduceAdd, Nat.reduceEqDiff, Nat.reduceLeDiff, reduceCtorEq, ↓reduceIte, ares, aresult, pr, Int.reduceEq, Int.reduceLT, Int.reduceLE, Nat.reduceSub, Nat.reduceMul, aFieldAddr, aField, aLoad, aStore, aExtract, aBox, aint, rdVar, rdCells, Value.oneCell', splice, Int.reduceNeg, zvar1, chunks, depth, some_map, Nat.reduceBEq, cf_dyn, okU, Tryz.f62, rf62, RuleT.c, hj, hx, hw j hj, hc x (List.mem_of_getElem? hx), hqx]) (by simp only [R0, RC, zipEnv, Nat.reduceLT, Nat.reduceAdd, Nat.reduceEqDiff, Nat.reduceLeDiff, reduceCtorEq, ↓reduceIte, ares, aresult, pr, Int.reduceEq, Int.reduceLT, Int.reduceLE, Nat.reduceSub, Nat.reduceMul, aFieldAddr, aField, aLoad, aStore, aExtract, aBox, aint, rdVar, rdCells, Value.oneCell', splice, Int.reduceNeg, zvar1, chunks, depth, some_map, Nat.reduceBEq, cf_dyn, okU, Tryz.f62, rf62]) with ⟨h, e⟩ | ⟨j, x, hj, hx, hqx, h, e⟩
  · rw [e, idxOf_none h]
    simp only [R0, RC, zipEnv, Nat.reduceLT, Nat.reduceAdd, Nat.reduceEqDiff, Nat.reduceLeDiff, reduceCtorEq, ↓reduceIte, ares, aresult, pr, Int.reduceEq, Int.reduceLT, Int.reduceLE, Nat.reduceSub, Nat.reduceMul, aFieldAddr, aField, aLoad, aStore, aExtract, aBox, aint, rdVar, rdCells, Value.oneCell', splice, Int.reduceNeg, zvar1, chunks, depth, some_map, Nat.reduceBEq, cf_dyn, okU, Tryz.f62, rf62]
  · rw [e, idxOf_some h]
    simp only [R0, RC, zipEnv, Nat.reduceLT, Nat.reduceAdd, Nat.reduceEqDiff, Nat.reduceLeDiff, reduceCtorEq, ↓reduceIte, ares, aresult, pr, Int.reduceEq, Int.reduceLT, Int.reduceLE, Nat.reduceSub, Nat.reduceMul, aFieldAddr, aField, aLoad, aStore, aExtract, aBox, aint, rdVar, rdCells, Value.oneCell', splice, Int.reduceNeg, zvar1, chunks, depth, some_map, Nat.reduceBEq, cf_dyn, okU, Tryz.f62, rf62, RuleT.c, hj, hx, hw j hj, hc x (List.mem_of_getElem? hx), hqx]
theorem anyDer_run (L : List RuleT) (s : ByteArray) (hl : L.length ≤ 100000) (k : Nat) (hk : 100010 ≤ k) : val Tryz.prog cf k 32 [mkL 4 (L.map RuleT.c), .fn 33 [.ro [.sc (.string s)]]] = some (.sc (.bool (L.any (derQ s)))) := by
  obtain ⟨k, rfl⟩ : ∃ j, k = j + 1 := ⟨k - 1, by omega⟩
  refine val_of (r := .sc (.bool (L.any (derQ s)))) (H1 := []) ?_ rfl rfl
  have h := idxR_gen (g := 33) (caps := [.ro [.sc (.string s)]]) L (derQ s) hl k (by omega) (fun r _ strict => by
    have h := der1_run r s (k - 1) (by omega)
    have hr : amap (rb [] depth) ([.agg r.c] ++ [.ro [.sc (.string s)]]) = some [.agg r.c, .ro [.sc (.string s)]] := by
      simp only [List.cons_append, List.nil_append, amap, rb_aggS (rule_stays r)]
      rfl
    rw [cl33, hr]
    simp only [Option.bind_some, h, Option.map_some])
  rw [arun_body rfl rfl Tryz.func32 rfl (N := 9) rfl]
  simp only [R0, RC, zipEnv, Nat.reduceLT, Nat.reduceAdd, Nat.reduceEqDiff, Nat.reduceLeDiff, reduceCtorEq, ↓reduceIte, ares, aresult, pr, Int.reduceEq, Int.reduceLT, Int.reduceLE, Nat.reduceSub, Nat.reduceMul, aFieldAddr, aField, aLoad, aStore, aExtract, aBox, aint, rdVar, rdCells, Value.oneCell', splice, Int.reduceNeg, zvar1, chunks, depth, some_map, Nat.reduceBEq, cf_dyn, okU, Tryz.f32, rf32, h, idx_any]
theorem der_run (p : ProgT) (s : ByteArray) (hl : p.rules.length ≤ 100000) (k : Nat) (hk : 100020 ≤ k) : val Tryz.prog cf k 31 [.sc (.string s), .ro p.c] = some (.sc (.bool (derB p s))) := by
  obtain ⟨k, rfl⟩ : ∃ j, k = j + 1 := ⟨k - 1, by omega⟩
  refine val_of (r := .sc (.bool (derB p s))) (H1 := []) ?_ rfl rfl
  have h := anyDer_run p.rules s hl k (by omega)
  unfold derB
  rw [arun_body rfl rfl Tryz.func31 rfl (N := 8) rfl]
  simp only [R0, RC, zipEnv, Nat.reduceLT, Nat.reduceAdd, Nat.reduceEqDiff, Nat.reduceLeDiff, reduceCtorEq, ↓reduceIte, ares, aresult, pr, Int.reduceEq, Int.reduceLT, Int.reduceLE, Nat.reduceSub, Nat.reduceMul, aFieldAddr, aField, aLoad, aStore, aExtract, aBox, aint, rdVar, rdCells, Value.oneCell', splice, Int.reduceNeg, zvar1, chunks, depth, some_map, Nat.reduceBEq, cf_dyn, okU, Tryz.f31, rf31, ProgT.c, h]
theorem appFm {t e : TypeId} {sz bytes : Nat} {H : List Blk} {v : AV} {rows more : List (List AV)} (ht : rowOk Tryz.prog t e sz bytes = true) (ho : OutAt e sz H v rows) (hr : ∀ r ∈ rows, r.length = sz) (hne : rows ≠ []) (hm0 : more ≠ []) (hx : ∀ r ∈ more, r.all one = true) (hb : (rows.length + more.length) * bytes ≤ 140737488355328) (hm : rows.length + more.length ≤ maxLen) :
    ∃ v' H', outH H (aappend Tryz.prog H t v (mkL sz more)) = some (v', H') ∧ OutAt e sz H' v' (rows ++ more) ∧ H.length ≤ H'.length ∧ (∀ c, c < H.length → blkB v ≠ some c → H'[c]? = H[c]?) ∧ blkB v' = blkB v := by
  rcases ho with ⟨h0, e0⟩ | ⟨_, c, ver, e0, hc⟩
  · exact absurd h0 hne
  · have hb' := app_o (P := Tryz.prog) (H := H) (b := c) (ver := ver) (rows := rows) (more := more) ht hc hr hm0 hx hb hm
    have hcl : c < H.length := (List.getElem?_eq_some_iff.1 hc).1
    subst e0
    rw [hb']
    refine ⟨_, _, rfl, .inr ⟨by simp [hm0], c, ver + 1, by simp, ?_⟩, by simp, fun d hd hn => ?_, rfl⟩
    · rw [List.getElem?_set_self hcl]
      simp
    · rw [List.getElem?_set_ne]
      rintro rfl
      exact hn rfl
structure ReadsR (w : List AV) (r : RuleT) : Prop where
  len : w.length = 4
  ones : w.all one = true
  rb : ∀ (H : List Blk), amap (rb H 37) w = some r.c
theorem rule_one' (r : RuleT) : r.c.all one = true := by simp [RuleT.c, one_mkL, one_sc, Value.oneCell']
theorem ReadsR.of (r : RuleT) : ReadsR r.c r := ⟨rfl, rule_one' r, fun H => amap_stays (k := 36) (rule_stays r)⟩
def AllR (ws : List (List AV)) (rs : List RuleT) : Prop := ws.length = rs.length ∧ ∀ (i : Nat) w r, ws[i]? = some w → rs[i]? = some r → ReadsR w r
theorem AllR.app {a b : List (List AV)} {x y : List RuleT} (h : AllR a x) (h2 : AllR b y) : AllR (a ++ b) (x ++ y) := by
  refine ⟨by simp [h.1, h2.1], fun i w r hw hr => ?_⟩
  rcases Nat.lt_or_ge i a.length with hi | hi
  · rw [List.getElem?_append_left hi] at hw
    rw [List.getElem?_append_left (by have := h.1; omega)] at hr
    exact h.2 i w r hw hr
  · rw [List.getElem?_append_right hi] at hw
    rw [List.getElem?_append_right (by have := h.1; omega)] at hr
    exact h2.2 _ w r hw (by rw [h.1]; exact hr)
theorem AllR.of (rs : List RuleT) : AllR (rs.map RuleT.c) rs := by
  refine ⟨by simp, fun i w r hw hr => ?_⟩
  rw [List.getElem?_map, hr] at hw
  cases hw
  exact .of r
theorem AllR.len {ws : List (List AV)} {rs : List RuleT} (h : AllR ws rs) : ∀ w ∈ ws, w.length = 4 := fun w hw => by
  obtain ⟨i, hi⟩ := List.getElem?_of_mem hw
  have hlt := (List.getElem?_eq_some_iff.1 hi).1
  exact (h.2 i w (rs[i]'(by have := h.1; omega)) hi (List.getElem?_eq_getElem _)).len
end Go.Proofs.YtpgipdajinkdgaaGreatA
