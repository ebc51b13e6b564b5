/- MagicAsks. -/
import Derived.Test.YtpgipdajinkdgaaGreatMC
import Derived.Test.YtpgipdajinkdgaaGreatML2
namespace Go.Proofs.YtpgipdajinkdgaaGreatA
open Go Go.RowKit
set_option linter.all false
set_option linter.unusedSectionVars false
set_option linter.constructorNameAsVariable false
set_option linter.unusedVariables false
set_option linter.unusedSimpArgs false
theorem ask_size {px : ByteArray} {u : D2} (h1 : px.size ≤ 10000000000000010) (h2 : u.1.size ≤ 10000000000000000 ∧ u.2.size ≤ 1000) : (askS px u).size ≤ 40000000000000000 := by
  unfold askS
  rw [ByteArray.size_append, ByteArray.size_append, ByteArray.size_append]
  have : (⟨#[95]⟩ : ByteArray).size = 1 := rfl
  omega
theorem rulS_heads {px : ByteArray} {op : List ByteArray} {used : List D2} (hp : px.size ≤ 10000000000000000) (hu : ∀ u ∈ used, u.1.size ≤ 10000000000000000 ∧ u.2.size ≤ 1000) : ∀ (ls : List LitT) (s : List LitT × List ByteArray × List RuleT), (∀ x ∈ s.2.2, x.head.p.size ≤ 40000000000000000) →
    ∀ x ∈ (ls.foldl (rulS px op used) s).2.2, x.head.p.size ≤ 40000000000000000
  | [], s, h => h
  | l :: ls, s, h => by
    rw [List.foldl_cons]
    refine rulS_heads hp hu ls _ ?_
    unfold rulS
    split
    · intro y hy
      rcases List.mem_append.1 hy with hy | hy
      · exact h y hy
      · rw [List.mem_singleton.1 hy]
        exact ask_size (by omega) (useD_mem (P := fun d : D2 => d.1.size ≤ 10000000000000000 ∧ d.2.size ≤ 1000) hu (by simp [dz]))
    · exact h
theorem rewT_heads {p : ProgT} {op : List ByteArray} {used : List D2} (R : RewS p (pfxT p) op used) : ∀ x ∈ (rewT (pfxT p) op used p).rules, preB x.head.p (fndS (pfxT p)) = true → x.head.p.size ≤ 40000000000000000 := by
  intro x hx hp
  rw [rewT_rules] at hx
  unfold madeR at hx
  have hf := firstD_size R
  rcases List.mem_append.1 hx with hx | hx
  · rcases List.mem_cons.1 hx with hx | hx
    · rw [hx]
      exact ask_size (by have := R.pxS; omega) hf
    · obtain ⟨d, hd, hx⟩ := List.mem_flatMap.1 hx
      unfold dmR at hx
      obtain ⟨r, hr, hx⟩ := List.mem_flatMap.1 hx
      unfold rulesT at hx
      rcases List.mem_append.1 hx with hx | hx
      · exact rulS_heads R.pxS R.ds _ _ (fun y hy => by simp [rul0] at hy) x hx
      · rw [List.mem_singleton.1 hx]
        show (askS (pfxT p ++ isS) d).size ≤ _
        refine ask_size ?_ (R.ds d hd)
        rw [ByteArray.size_append]
        have : isS.size = 3 := rfl
        have := R.pxS
        omega
  · rw [pre_less (baseR_no x hx)] at hp
    cases hp
def cntR (px : ByteArray) (rs : List RuleT) : Nat := (rs.filter fun x => preB x.head.p (fndS px)).length
theorem cntR_succ {px : ByteArray} {rs : List RuleT} {j : Nat} {x : RuleT} (h : rs[j]? = some x) : cntR px (rs.take (j + 1)) = cntR px (rs.take j) + (if preB x.head.p (fndS px) = true then 1 else 0) := by
  have hj : j < rs.length := by rcases Nat.lt_or_ge j rs.length with h' | h'; exact h'; rw [List.getElem?_eq_none h'] at h; cases h
  rw [List.getElem?_eq_getElem hj] at h
  simp only [Option.some.injEq] at h
  unfold cntR
  rw [List.take_succ_eq_append_getElem hj, h, List.filter_append, List.length_append]
  by_cases hp : preB x.head.p (fndS px) = true
  · simp [hp]
  · simp [hp]
theorem split_at {rs : List RuleT} {j : Nat} {x : RuleT} (h : rs[j]? = some x) : rs = rs.take j ++ x :: rs.drop (j + 1) := by
  have hj : j < rs.length := by rcases Nat.lt_or_ge j rs.length with h' | h'; exact h'; rw [List.getElem?_eq_none h'] at h; cases h
  rw [List.getElem?_eq_getElem hj] at h
  simp only [Option.some.injEq] at h
  conv => lhs; rw [← List.take_append_drop j rs, List.drop_eq_getElem_cons hj, h]
theorem cntF_le (px : ByteArray) (ls : List LitT) : cntF px ls ≤ ls.length := List.length_filter_le _ _
set_option maxHeartbeats 4000000 in
theorem asks_main {p q : ProgT} {px : ByteArray} (hR : AskR px q.rules) (hS : ∀ x ∈ q.rules, SizR x) (hH : ∀ x ∈ q.rules, preB x.head.p (fndS px) = true → x.head.p.size ≤ 40000000000000000) (hpx : px.size ≤ 10000000000000010) (hql : q.rules.length ≤ 99000000) {k : Nat} (hk : 200000000 ≤ k) (hpre : val Tryz.prog cf k 17 [.agg p.c] = some (.sc (.string px))) {jump : Code → Code → St → Option (AX × St)} {s0 : St} {R : Option (AX × St)} {H : List Blk}
    (h : aloop Tryz.prog (acall cf.mode false (arun Tryz.prog cf k)) (acall cf.mode true (arun Tryz.prog cf k)) jump (pureOf cf.mode) (cf.dyn 5) (cf.keep 5) 211 k (loopAt Tryz.f5 9) s0 = R)
    (h0 : pr [2, 5, 7, 8, 37, 38] s0 = ⟨[(2, .ro p.c), (5, .ro q.c), (7, .sc (.string (fndS px))), (8, .sc (.int .i64 0)), (37, .sc (.int .i64 q.rules.length)), (38, .sc (.int .i64 0))], H⟩) :
    R = some (.exit 0, ⟨[(2, .ro p.c), (5, .ro q.c), (7, .sc (.string (fndS px))), (8, .sc (.int .i64 (cntR px q.rules : Nat))), (37, .sc (.int .i64 q.rules.length)), (38, .sc (.int .i64 q.rules.length)), (39, .sc (.bool false))], H⟩) := by
  have hw : ∀ j, j < q.rules.length → IntKind.i64.wrap (((j : Nat) : Int) + 1) = ((j + 1 : Nat) : Int) := fun j hj => wrap_succ (by omega)
  simp only [ProgT.c] at hpre
  obtain ⟨s, hs, e⟩ := aloop_inv2 h [2, 5, 7, 8, 37, 38] (fun j s => s = ⟨[(2, .ro p.c), (5, .ro q.c), (7, .sc (.string (fndS px))), (8, .sc (.int .i64 (cntR px (q.rules.take j) : Nat))), (37, .sc (.int .i64 q.rules.length)), (38, .sc (.int .i64 (j : Nat)))], H⟩) q.rules.length (by omega) rfl (by rw [h0]; rfl) (fun j hj s hs => by
    subst hs
    obtain ⟨x, hx⟩ : ∃ x, x = q.rules[j] := ⟨_, rfl⟩
    have xj : q.rules[j]? = some x := by rw [hx]; exact List.getElem?_eq_getElem hj
    have hxm := List.mem_of_getElem? xj
    have hxS := hS x hxm
    rw [cntR_succ xj]
    have hcl : cntR px (q.rules.take j) ≤ q.rules.length := by
      unfold cntR
      refine Nat.le_trans (List.length_filter_le _ _) ?_
      rw [List.length_take]
      omega
    generalize cntR px (q.rules.take j) = m at *
    have e1 : ((x.head.p.size : Int) < ((fndS px).size : Int)) = (x.head.p.size < (fndS px).size) := propext (by omega)
    by_cases hsz : x.head.p.size < (fndS px).size
    · have hpn : preB x.head.p (fndS px) = false := by
        unfold preB
        rw [decide_eq_false (by omega)]
        rfl
      have z : m + (if preB x.head.p (fndS px) = true then 1 else 0) = m := by rw [hpn]; simp
      rw [z]
      exact ⟨_, by simp only [R0, RC, zipEnv, Nat.reduceLT, Nat.reduceAdd, Nat.reduceEqDiff, Nat.reduceLeDiff, reduceCtorEq, ↓reduceIte, ares, aresult, pr, Int.reduceEq, Int.reduceLT, Int.reduceLE, Nat.reduceSub, Nat.reduceMul, aFieldAddr, aField, aLoad, aStore, aExtract, aBox, aint, rdVar, rdCells, Value.oneCell', splice, Int.reduceNeg, zvar1, chunks, depth, some_map, Nat.reduceBEq, cf_dyn, okU, Tryz.f5, rf5, loopAt, findLoop, firstId, Option.getD_some, Option.some.injEq, Nat.reduceEqDiff, if_false, if_true, RuleT.c, ProgT.c, hj, xj, hw j hj, e1, hsz], rfl⟩
    · have hle : (fndS px).size ≤ x.head.p.size := by omega
      have hx1 : bnd (some (AV.sc (.int .i64 ((fndS px).size : Nat)))) x.head.p.size x.head.p.size = some (fndS px).size := by
        simp [bnd, aint]
        omega
      by_cases hpe : x.head.p.extract 0 (fndS px).size = fndS px
      · have hpt : preB x.head.p (fndS px) = true := by
          unfold preB
          rw [decide_eq_true hle, decide_eq_true hpe]
          rfl
        have z : m + (if preB x.head.p (fndS px) = true then 1 else 0) = m + 1 := by rw [hpt]; simp
        rw [z]
        have hAC := hR _ x _ (split_at xj) hpt
        have hAl : (q.rules.take j).length = j := by rw [List.length_take]; omega
        obtain ⟨l, hl⟩ : ∃ l, x.body[0]? = some l := by
          have hpos := List.length_pos_iff.2 hAC.ne
          exact ⟨_, List.getElem?_eq_getElem hpos⟩
        obtain ⟨hk1, d, hd1, hd2⟩ := hAC.guard l hl
        have hfr := fnd_rest px d
        rw [← hd1, ← hd2] at hfr
        have hix : ∀ H, aIndexAddr Tryz.prog H 48 (mkL 17 (x.body.map LitT.c)) (.sc (.int .i64 0)) = some (.val (.ro l.c)) := fun H => by
          have := ix_mkL (P := Tryz.prog) (H := H) (t := 48) (rows := x.body.map LitT.c) (k := .i64) (i := 0) Tryz.underlying48 sz54 (by decide)
          rw [List.getElem?_map, hl] at this
          exact this
        have hx2 : bnd (some (AV.sc (.int .i64 ((fndS px).size : Nat)))) 0 x.head.p.size = some (fndS px).size := by
          simp [bnd, aint]
          omega
        have hHs := hH x hxm hpt
        have hadd : px.size + (x.head.p.extract (fndS px).size x.head.p.size).size ≤ maxLen := by
          rw [ByteArray.size_extract]
          unfold maxLen
          omega
        have c0 : ((x.body.length : Int) = 0) = False := by simp; exact hAC.ne
        have hwm : IntKind.i64.wrap (((m : Nat) : Int) + 1) = ((m + 1 : Nat) : Int) := wrap_succ (by omega)
        have hcnt := cntF_le px (x.body.drop 1)
        rw [List.length_drop] at hcnt
        have hin1 := fun (s0 : St) (R : Option (AX × St)) (jump : Code → Code → St → Option (AX × St)) => asks_cnt (p := p) (q := q) (px := px) (x := x) (many := (m + 1 : Nat)) (i := (j : Nat)) (n := q.rules.length) hxS.1 (k := k) (by omega) (jump := jump) (s0 := s0) (R := R) (H := H)
        have hin2 := fun (s0 : St) (R : Option (AX × St)) (jump : Code → Code → St → Option (AX × St)) => asks_back (p := p) (q := q) (px := px) (x := x) (A := q.rules.take j) (many := (m + 1 : Nat)) (n := q.rules.length) (i := j) (c := cntF px (x.body.drop 1)) hAl.symm (fun i y hy => by
          rw [List.getElem?_take] at hy
          split at hy
          · exact hy
          · cases hy) hAC.cnt (by omega) hxS hAC.each (k := k) (by omega) (jump := jump) (s0 := s0) (R := R) (H := H)
        simp only [R0, RC, zipEnv, Nat.reduceLT, Nat.reduceAdd, Nat.reduceEqDiff, Nat.reduceLeDiff, reduceCtorEq, ↓reduceIte, ares, aresult, pr, Int.reduceEq, Int.reduceLT, Int.reduceLE, Nat.reduceSub, Nat.reduceMul, aFieldAddr, aField, aLoad, aStore, aExtract, aBox, aint, rdVar, rdCells, Value.oneCell', splice, Int.reduceNeg, zvar1, chunks, depth, some_map, Nat.reduceBEq, cf_dyn, okU, Tryz.f5, rf5, loopAt, findLoop, firstId, Option.getD_some, Option.some.injEq, Nat.reduceEqDiff, if_false, if_true, RuleT.c, LitT.c, ProgT.c, hj, xj, e1, hsz, slStr, hx1, hpe, hwm, c0, hix, hk1, hpre, hx2, aBin_addS hadd, hfr]
        generalize hB : aloop _ _ _ _ _ _ _ _ _ _ _ = B
        have eB := hin1 _ _ _ hB (by simp only [R0, RC, zipEnv, Nat.reduceLT, Nat.reduceAdd, Nat.reduceEqDiff, Nat.reduceLeDiff, reduceCtorEq, ↓reduceIte, ares, aresult, pr, Int.reduceEq, Int.reduceLT, Int.reduceLE, Nat.reduceSub, Nat.reduceMul, aFieldAddr, aField, aLoad, aStore, aExtract, aBox, aint, rdVar, rdCells, Value.oneCell', splice, Int.reduceNeg, zvar1, chunks, depth, some_map, Nat.reduceBEq, cf_dyn, okU, Tryz.f5, rf5, RuleT.c, ProgT.c]; try rfl)
        rw [eB]
        simp only [R0, RC, zipEnv, Nat.reduceLT, Nat.reduceAdd, Nat.reduceEqDiff, Nat.reduceLeDiff, reduceCtorEq, ↓reduceIte, ares, aresult, pr, Int.reduceEq, Int.reduceLT, Int.reduceLE, Nat.reduceSub, Nat.reduceMul, aFieldAddr, aField, aLoad, aStore, aExtract, aBox, aint, rdVar, rdCells, Value.oneCell', splice, Int.reduceNeg, zvar1, chunks, depth, some_map, Nat.reduceBEq, cf_dyn, okU, Tryz.f5, rf5, loopAt, findLoop, firstId, Option.getD_some, Option.some.injEq, Nat.reduceEqDiff, if_false, if_true, RuleT.c, LitT.c, ProgT.c]
        generalize hC : aloop _ _ _ _ _ _ _ _ _ _ _ = C
        have eC := hin2 _ _ _ hC (by simp only [R0, RC, zipEnv, Nat.reduceLT, Nat.reduceAdd, Nat.reduceEqDiff, Nat.reduceLeDiff, reduceCtorEq, ↓reduceIte, ares, aresult, pr, Int.reduceEq, Int.reduceLT, Int.reduceLE, Nat.reduceSub, Nat.reduceMul, aFieldAddr, aField, aLoad, aStore, aExtract, aBox, aint, rdVar, rdCells, Value.oneCell', splice, Int.reduceNeg, zvar1, chunks, depth, some_map, Nat.reduceBEq, cf_dyn, okU, Tryz.f5, rf5, RuleT.c, ProgT.c]; try rfl)
        rw [eC]
        exact ⟨_, by simp only [R0, RC, zipEnv, Nat.reduceLT, Nat.reduceAdd, Nat.reduceEqDiff, Nat.reduceLeDiff, reduceCtorEq, ↓reduceIte, ares, aresult, pr, Int.reduceEq, Int.reduceLT, Int.reduceLE, Nat.reduceSub, Nat.reduceMul, aFieldAddr, aField, aLoad, aStore, aExtract, aBox, aint, rdVar, rdCells, Value.oneCell', splice, Int.reduceNeg, zvar1, chunks, depth, some_map, Nat.reduceBEq, cf_dyn, okU, Tryz.f5, rf5, loopAt, findLoop, firstId, Option.getD_some, Option.some.injEq, Nat.reduceEqDiff, if_false, if_true, RuleT.c, ProgT.c, hw j hj], rfl⟩
      · have hpn : preB x.head.p (fndS px) = false := by
          unfold preB
          rw [decide_eq_false hpe, Bool.and_false]
        have z : m + (if preB x.head.p (fndS px) = true then 1 else 0) = m := by rw [hpn]; simp
        rw [z]
        exact ⟨_, by simp only [R0, RC, zipEnv, Nat.reduceLT, Nat.reduceAdd, Nat.reduceEqDiff, Nat.reduceLeDiff, reduceCtorEq, ↓reduceIte, ares, aresult, pr, Int.reduceEq, Int.reduceLT, Int.reduceLE, Nat.reduceSub, Nat.reduceMul, aFieldAddr, aField, aLoad, aStore, aExtract, aBox, aint, rdVar, rdCells, Value.oneCell', splice, Int.reduceNeg, zvar1, chunks, depth, some_map, Nat.reduceBEq, cf_dyn, okU, Tryz.f5, rf5, loopAt, findLoop, firstId, Option.getD_some, Option.some.injEq, Nat.reduceEqDiff, if_false, if_true, RuleT.c, ProgT.c, hj, xj, hw j hj, e1, hsz, slStr, hx1, hpe], rfl⟩) (fun s hs => by
    subst hs
    simp only [R0, RC, zipEnv, Nat.reduceLT, Nat.reduceAdd, Nat.reduceEqDiff, Nat.reduceLeDiff, reduceCtorEq, ↓reduceIte, ares, aresult, pr, Int.reduceEq, Int.reduceLT, Int.reduceLE, Nat.reduceSub, Nat.reduceMul, aFieldAddr, aField, aLoad, aStore, aExtract, aBox, aint, rdVar, rdCells, Value.oneCell', splice, Int.reduceNeg, zvar1, chunks, depth, some_map, Nat.reduceBEq, cf_dyn, okU, Tryz.f5, rf5, loopAt, findLoop, firstId, Option.getD_some, Option.some.injEq, Nat.reduceEqDiff, if_false, if_true])
  subst hs
  rw [e, List.take_length]
  simp only [R0, RC, zipEnv, Nat.reduceLT, Nat.reduceAdd, Nat.reduceEqDiff, Nat.reduceLeDiff, reduceCtorEq, ↓reduceIte, ares, aresult, pr, Int.reduceEq, Int.reduceLT, Int.reduceLE, Nat.reduceSub, Nat.reduceMul, aFieldAddr, aField, aLoad, aStore, aExtract, aBox, aint, rdVar, rdCells, Value.oneCell', splice, Int.reduceNeg, zvar1, chunks, depth, some_map, Nat.reduceBEq, cf_dyn, okU, Tryz.f5, rf5, loopAt, findLoop, firstId, Option.getD_some, Option.some.injEq, Nat.reduceEqDiff, if_false, if_true]
end Go.Proofs.YtpgipdajinkdgaaGreatA

namespace Go.Proofs.YtpgipdajinkdgaaGreatA
open Go Go.RowKit
set_option linter.all false
set_option linter.unusedSectionVars false
set_option linter.constructorNameAsVariable false
set_option linter.unusedVariables false
set_option linter.unusedSimpArgs false
set_option maxRecDepth 20000 in
set_option maxHeartbeats 4000000 in
theorem magicAsks_law (p : ProgT) (prune : Bool) (hS : ∀ n ∈ allN p, n.size ≤ bigB) (k : Nat) (hk : bigB + 2000000 ≤ k) (haw : val Tryz.prog cf k 7 [] = some (.sc (.bool true))) : ∃ H, arun Tryz.prog cf (k + 1) 5 [.agg p.c, .sc (.bool prune)] [] = some (.sc (.bool true), H) := by
  have hk1 : bigB + 1000800 ≤ k := Nat.le_trans (Nat.add_le_add_left (by omega) bigB) hk
  have hk2 : bigB + 1000000 ≤ k := Nat.le_trans (Nat.add_le_add_left (by omega) bigB) hk
  have hk3 : 1000000000000000 ≤ k := by unfold bigB at hk; omega
  obtain ⟨fw, hfew, hfw⟩ := few17_run p k (by omega)
  simp only [ProgT.c] at hfew
  rw [arun_body rfl rfl Tryz.func5 rfl (N := 211) rfl]
  cases fw with
  | false => exact ⟨[], by simp only [R0, RC, zipEnv, Nat.reduceLT, Nat.reduceAdd, Nat.reduceEqDiff, Nat.reduceLeDiff, reduceCtorEq, ↓reduceIte, ares, aresult, pr, Int.reduceEq, Int.reduceLT, Int.reduceLE, Nat.reduceSub, Nat.reduceMul, aFieldAddr, aField, aLoad, aStore, aExtract, aBox, aint, rdVar, rdCells, Value.oneCell', splice, Int.reduceNeg, zvar1, chunks, depth, some_map, Nat.reduceBEq, cf_dyn, okU, Tryz.f5, rf5, ProgT.c, haw, hfew]⟩
  | true =>
  obtain ⟨F, hQ, hA3⟩ := hfw rfl
  have S := magS_of F hQ hA3 hS
  have hpb : ∀ r ∈ p.rules, r.body.length ≤ 1000 := fun r hr => by have := F.body r hr; omega
  rcases rewrite_run p prune S k hk1 with ⟨_, hrw⟩ | ⟨hq, D, hI, hrw⟩
  · simp only [ProgT.c] at hrw
    exact ⟨[], by simp only [R0, RC, zipEnv, Nat.reduceLT, Nat.reduceAdd, Nat.reduceEqDiff, Nat.reduceLeDiff, reduceCtorEq, ↓reduceIte, ares, aresult, pr, Int.reduceEq, Int.reduceLT, Int.reduceLE, Nat.reduceSub, Nat.reduceMul, aFieldAddr, aField, aLoad, aStore, aExtract, aBox, aint, rdVar, rdCells, Value.oneCell', splice, Int.reduceNeg, zvar1, chunks, depth, some_map, Nat.reduceBEq, cf_dyn, okU, Tryz.f5, rf5, ProgT.c, haw, hfew, hrw]⟩
  · have R := rewS_of S hI prune
    have hml := made_len R
    have hqr := rewT_rules (pfxT p) (openT p) (usedT prune D) p
    have hpre := prefix_run p (by have := F.rules; omega) (fun r hr => ⟨hpb r hr, S.path r hr⟩) (by have := S.names; omega) S.bytes k hk2
    have hbl : (baseR p).length ≤ 1000 := Nat.le_trans (List.length_filter_le _ _) (by have := F.rules; omega)
    have hlen : (rewT (pfxT p) (openT p) (usedT prune D) p).rules.length ≤ 12001000 := by rw [hqr, List.length_append]; omega
    have hsz := rewT_siz (px := pfxT p) (op := openT p) (used := usedT prune D) (p := p) (fun x hx => ⟨by have := F.body x hx; omega, by have := F.head x hx; omega, fun l hl => ⟨by have := hA3 x hx l hl; omega, F.path x hx l hl⟩⟩)
    have hhd := rewT_heads R
    have hask := rewT_asks hI prune
    obtain ⟨xa, hxa, hxp⟩ := some_answers hI prune
    have hpx := R.pxS
    generalize rewT (pfxT p) (openT p) (usedT prune D) p = q at *
    generalize pfxT p = px at *
    have hcnt : (0 < ((cntR px q.rules : Nat) : Int)) = True := by
      have : 0 < cntR px q.rules := List.length_pos_iff.2 (List.ne_nil_of_mem (List.mem_filter.2 ⟨hxa, hxp⟩))
      simp; omega
    have hnm := names13_run q (by omega) (fun r hr => ⟨(hsz r hr).1, fun l hl => ((hsz r hr).2 l hl).2⟩) k (by omega)
    have hal : (nm11 (all13 q)).length ≤ 5000000000000 := by
      have h1 := nm11_len (all13 q) []
      have h2 := all13_len q.rules (fun r hr => ⟨(hsz r hr).1, fun l hl => ((hsz r hr).2 l hl).2⟩)
      have h3 : (all13 q).length = (q.rules.flatMap rul13).length + 1 := by unfold all13; rw [List.length_cons]
      unfold nm11
      simp only [List.length_nil, Nat.zero_add] at h1
      omega
    have hmem : q.query.p ∈ nm11 (all13 q) := nm11_mem (all13 q) [] _ (by unfold all13; exact List.mem_cons_self ..)
    have hin := in_run2 (nm11 (all13 q)) q.query.p hal k (by omega)
    rw [mem_inS hmem] at hin
    have hpos : (0 < ((sRows (nm11 (all13 q))).length : Int)) = True := by
      have h1 : (sRows (nm11 (all13 q))).length = (nm11 (all13 q)).length := by unfold sRows; rw [List.length_map]
      have h2 := List.length_pos_iff.2 (List.ne_nil_of_mem hmem)
      simp; omega
    generalize sRows (nm11 (all13 q)) = nr at *
    have hadd : px.size + isS.size ≤ maxLen := by
      have : isS.size = 3 := rfl
      unfold maxLen
      omega
    have hb1 := fun (s0 : St) (R0 : Option (AX × St)) (jump : Code → Code → St → Option (AX × St)) (H : List Blk) => asks_main (p := p) (q := q) (px := px) hask hsz hhd (by omega) (by omega) (k := k) (by omega) hpre (jump := jump) (s0 := s0) (R := R0) (H := H)
    have hisS : (⟨#[105, 115, 95]⟩ : ByteArray) = isS := rfl
    have hfnd : px ++ isS = fndS px := rfl
    simp only [ProgT.c] at hrw hpre hnm
    simp only [R0, RC, zipEnv, Nat.reduceLT, Nat.reduceAdd, Nat.reduceEqDiff, Nat.reduceLeDiff, reduceCtorEq, ↓reduceIte, ares, aresult, pr, Int.reduceEq, Int.reduceLT, Int.reduceLE, Nat.reduceSub, Nat.reduceMul, aFieldAddr, aField, aLoad, aStore, aExtract, aBox, aint, rdVar, rdCells, Value.oneCell', splice, Int.reduceNeg, zvar1, chunks, depth, some_map, Nat.reduceBEq, cf_dyn, okU, Tryz.f5, rf5, ProgT.c, haw, hfew, hrw, hpre, hisS, aBin_addS hadd, hfnd]
    generalize hA : aloop _ _ _ _ _ _ _ _ _ _ _ = A
    have e1 := hb1 _ _ _ _ hA (by simp only [R0, RC, zipEnv, Nat.reduceLT, Nat.reduceAdd, Nat.reduceEqDiff, Nat.reduceLeDiff, reduceCtorEq, ↓reduceIte, ares, aresult, pr, Int.reduceEq, Int.reduceLT, Int.reduceLE, Nat.reduceSub, Nat.reduceMul, aFieldAddr, aField, aLoad, aStore, aExtract, aBox, aint, rdVar, rdCells, Value.oneCell', splice, Int.reduceNeg, zvar1, chunks, depth, some_map, Nat.reduceBEq, cf_dyn, okU, Tryz.f5, rf5, ProgT.c]; try rfl)
    rw [e1]
    exact ⟨_, by simp only [R0, RC, zipEnv, Nat.reduceLT, Nat.reduceAdd, Nat.reduceEqDiff, Nat.reduceLeDiff, reduceCtorEq, ↓reduceIte, ares, aresult, pr, Int.reduceEq, Int.reduceLT, Int.reduceLE, Nat.reduceSub, Nat.reduceMul, aFieldAddr, aField, aLoad, aStore, aExtract, aBox, aint, rdVar, rdCells, Value.oneCell', splice, Int.reduceNeg, zvar1, chunks, depth, some_map, Nat.reduceBEq, cf_dyn, okU, Tryz.f5, rf5, ProgT.c, hcnt, hnm, hpos, hin]; try rfl⟩
end Go.Proofs.YtpgipdajinkdgaaGreatA
