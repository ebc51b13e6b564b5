/- A part of the proof of MagicLeft: functions of the program, run by the evaluator. -/

/- MagicLeft. -/
import Derived.Test.YtpgipdajinkdgaaGreatML
namespace Go.Proofs.YtpgipdajinkdgaaGreatA
open Go Go.RowKit
set_option linter.all false
set_option linter.unusedSectionVars false
set_option linter.constructorNameAsVariable false
set_option linter.unusedVariables false
set_option linter.unusedSimpArgs false
theorem magS_of {p : ProgT} (F : FewT p 8 5) (hQ : p.query.args.length ≤ 3) (hA : ∀ r ∈ p.rules, ∀ l ∈ r.body, l.a.args.length ≤ 3) (hS : ∀ n ∈ allN p, n.size ≤ bigB) : MagS p where
  rules := F.rules
  query := by omega
  body := fun r hr => ⟨by have := F.body r hr; omega, F.head r hr, fun x hx => by have := hA r hr x hx; omega⟩
  path := fun r hr l hl => by have := F.path r hr l hl; omega
  names := by
    have := allN_le p 8 5 F
    omega
  bytes := hS
theorem made_len {p : ProgT} {px : ByteArray} {op : List ByteArray} {used : List D2} (R : RewS p px op used) : (madeR px op used p).length ≤ 12000000 := by
  have := flat_bound (px := px) (op := op) (used := used) R.body R.rules used
  have := R.usedS
  unfold madeR
  rw [List.length_cons]
  omega
set_option maxRecDepth 20000 in
set_option maxHeartbeats 4000000 in
theorem magicLeft_law (p : ProgT) (prune : Bool) (hS : ∀ n ∈ allN p, n.size ≤ bigB) (k : Nat) (hk : bigB + 2000000 ≤ k) (haw : val Tryz.prog cf k 7 [] = some (.sc (.bool true))) : ∃ H, arun Tryz.prog cf (k + 1) 4 [.agg p.c, .sc (.bool prune)] [] = some (.sc (.bool true), H) := by
  have hk1 : bigB + 1000800 ≤ k := Nat.le_trans (Nat.add_le_add_left (by omega) bigB) hk
  have hk2 : bigB + 1000000 ≤ k := Nat.le_trans (Nat.add_le_add_left (by omega) bigB) hk
  obtain ⟨fw, hfew, hfw⟩ := few17_run p k (by omega)
  simp only [ProgT.c] at hfew
  rw [arun_body rfl rfl Tryz.func4 rfl (N := 146) rfl]
  cases fw with
  | false => exact ⟨[], by simp only [R0, RC, zipEnv, Nat.reduceLT, Nat.reduceAdd, Nat.reduceEqDiff, Nat.reduceLeDiff, reduceCtorEq, ↓reduceIte, ares, aresult, pr, Int.reduceEq, Int.reduceLT, Int.reduceLE, Nat.reduceSub, Nat.reduceMul, aFieldAddr, aField, aLoad, aStore, aExtract, aBox, aint, rdVar, rdCells, Value.oneCell', splice, Int.reduceNeg, zvar1, chunks, depth, some_map, Nat.reduceBEq, cf_dyn, okU, Tryz.f4, rf4, ProgT.c, haw, hfew]⟩
  | true =>
  obtain ⟨F, hQ, hA3⟩ := hfw rfl
  have S := magS_of F hQ hA3 hS
  have hpr : p.rules.length ≤ 1000 := by have := F.rules; omega
  have hpb : ∀ r ∈ p.rules, r.body.length ≤ 1000 := fun r hr => by have := F.body r hr; omega
  have hall : ∀ r ∈ p.rules, r.head.args.length ≤ 1000 ∧ r.body.length ≤ 1000 ∧ ∀ l ∈ r.body, l.a.args.length ≤ 1000 ∧ l.path.length ≤ 1000 := fun r hr => ⟨by have := F.head r hr; omega, hpb r hr, fun l hl => ⟨by have := F.args r hr l hl; omega, by have := F.path r hr l hl; omega⟩⟩
  rcases rewrite_run p prune S k hk1 with ⟨_, hrw⟩ | ⟨hq, D, hI, hrw⟩
  · have hsame := same_run9 p (by have := F.query; omega) hpr hall k (by omega)
    simp only [ProgT.c] at hrw hsame
    exact ⟨[], by simp only [R0, RC, zipEnv, Nat.reduceLT, Nat.reduceAdd, Nat.reduceEqDiff, Nat.reduceLeDiff, reduceCtorEq, ↓reduceIte, ares, aresult, pr, Int.reduceEq, Int.reduceLT, Int.reduceLE, Nat.reduceSub, Nat.reduceMul, aFieldAddr, aField, aLoad, aStore, aExtract, aBox, aint, rdVar, rdCells, Value.oneCell', splice, Int.reduceNeg, zvar1, chunks, depth, some_map, Nat.reduceBEq, cf_dyn, okU, Tryz.f4, rf4, ProgT.c, haw, hfew, hrw, hsame]; try rfl⟩
  · have R := rewS_of S hI prune
    have hml := made_len R
    have hmade := madeR_all (p := p) (fun r hr => by have := F.body r hr; omega) hI prune
    have hbase := baseR_no (p := p)
    have hqp : preB (rewT (pfxT p) (openT p) (usedT prune D) p).query.p (pfxT p) = true := pre_found _ _
    have hqr := rewT_rules (pfxT p) (openT p) (usedT prune D) p
    have hpre := prefix_run p (by omega) (fun r hr => ⟨hpb r hr, S.path r hr⟩) (by have := S.names; omega) S.bytes k hk2
    have hbl : (baseR p).length ≤ 1000 := Nat.le_trans (List.length_filter_le _ _) hpr
    generalize rewT (pfxT p) (openT p) (usedT prune D) p = q at *
    generalize madeR (pfxT p) (openT p) (usedT prune D) p = made at *
    generalize pfxT p = px at *
    have hou := ours_run q.query.p px k (by omega)
    rw [hqp] at hou
    have hb1 := fun (s0 : St) (R0 : Option (AX × St)) (jump : Code → Code → St → Option (AX × St)) (H : List Blk) => left_base (p := p) (q := q) (px := px) hpr hpb (k := k) (by omega) (jump := jump) (s0 := s0) (R := R0) (H := H)
    have hb2 := fun (s0 : St) (R0 : Option (AX × St)) (jump : Code → Code → St → Option (AX × St)) (H : List Blk) (b ver : Nat) (hb : _) => left_main (p := p) (q := q) (px := px) (made := made) (base := baseR p) hqr hmade hbase (fun x hx => hall x (List.mem_filter.1 hx).1) (by rw [hqr, List.length_append]; omega) hpr hpb (k := k) (by unfold bigB at hk; omega) (jump := jump) (s0 := s0) (R := R0) (H := H) (b := b) (ver := ver) hb
    simp only [ProgT.c] at hrw hpre
    simp only [R0, RC, zipEnv, Nat.reduceLT, Nat.reduceAdd, Nat.reduceEqDiff, Nat.reduceLeDiff, reduceCtorEq, ↓reduceIte, ares, aresult, pr, Int.reduceEq, Int.reduceLT, Int.reduceLE, Nat.reduceSub, Nat.reduceMul, aFieldAddr, aField, aLoad, aStore, aExtract, aBox, aint, rdVar, rdCells, Value.oneCell', splice, Int.reduceNeg, zvar1, chunks, depth, some_map, Nat.reduceBEq, cf_dyn, okU, Tryz.f4, rf4, ProgT.c, haw, hfew, hrw, hpre]
    generalize hA : aloop _ _ _ _ _ _ _ _ _ _ _ = A
    obtain ⟨H1, v, hB, e1⟩ := hb1 _ _ _ _ hA (by simp only [R0, RC, zipEnv, Nat.reduceLT, Nat.reduceAdd, Nat.reduceEqDiff, Nat.reduceLeDiff, reduceCtorEq, ↓reduceIte, ares, aresult, pr, Int.reduceEq, Int.reduceLT, Int.reduceLE, Nat.reduceSub, Nat.reduceMul, aFieldAddr, aField, aLoad, aStore, aExtract, aBox, aint, rdVar, rdCells, Value.oneCell', splice, Int.reduceNeg, zvar1, chunks, depth, some_map, Nat.reduceBEq, cf_dyn, okU, Tryz.f4, rf4, ProgT.c]; try rfl)
    obtain ⟨b, ver, rfl, hblk⟩ := leftV_of hB
    rw [e1]
    simp only [R0, RC, zipEnv, Nat.reduceLT, Nat.reduceAdd, Nat.reduceEqDiff, Nat.reduceLeDiff, reduceCtorEq, ↓reduceIte, ares, aresult, pr, Int.reduceEq, Int.reduceLT, Int.reduceLE, Nat.reduceSub, Nat.reduceMul, aFieldAddr, aField, aLoad, aStore, aExtract, aBox, aint, rdVar, rdCells, Value.oneCell', splice, Int.reduceNeg, zvar1, chunks, depth, some_map, Nat.reduceBEq, cf_dyn, okU, Tryz.f4, rf4, ProgT.c]
    generalize hC : aloop _ _ _ _ _ _ _ _ _ _ _ = C
    have e2 := hb2 _ _ _ _ b ver hblk hC (by simp only [R0, RC, zipEnv, Nat.reduceLT, Nat.reduceAdd, Nat.reduceEqDiff, Nat.reduceLeDiff, reduceCtorEq, ↓reduceIte, ares, aresult, pr, Int.reduceEq, Int.reduceLT, Int.reduceLE, Nat.reduceSub, Nat.reduceMul, aFieldAddr, aField, aLoad, aStore, aExtract, aBox, aint, rdVar, rdCells, Value.oneCell', splice, Int.reduceNeg, zvar1, chunks, depth, some_map, Nat.reduceBEq, cf_dyn, okU, Tryz.f4, rf4, ProgT.c]; try rfl)
    rw [e2]
    have hlv : leftV (baseR p).length b ver (baseR p).length = if (baseR p).length = 0 then .sc (.slice none 0 0) else .lst 4 [] := by
      unfold leftV
      rw [if_pos rfl]
    have hl0 : ∀ H, aLen Tryz.prog H 38 (leftV (baseR p).length b ver (baseR p).length) = some (.val (.sc (.int .i64 0))) := fun H => by
      rw [hlv]
      split
      · exact lenNil Tryz.underlying38
      · simp only [aLen, alen, List.length_nil]
        rfl
    exact ⟨_, by simp only [R0, RC, zipEnv, Nat.reduceLT, Nat.reduceAdd, Nat.reduceEqDiff, Nat.reduceLeDiff, reduceCtorEq, ↓reduceIte, ares, aresult, pr, Int.reduceEq, Int.reduceLT, Int.reduceLE, Nat.reduceSub, Nat.reduceMul, aFieldAddr, aField, aLoad, aStore, aExtract, aBox, aint, rdVar, rdCells, Value.oneCell', splice, Int.reduceNeg, zvar1, chunks, depth, some_map, Nat.reduceBEq, cf_dyn, okU, Tryz.f4, rf4, ProgT.c, hl0, hou]; try rfl⟩
end Go.Proofs.YtpgipdajinkdgaaGreatA
