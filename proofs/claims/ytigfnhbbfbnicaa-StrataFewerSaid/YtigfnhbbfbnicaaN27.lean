/- comps.lists, turned round. -/
import Derived.Test.YtigfnhbbfbnicaaN14
namespace Go.Proofs.YtigfnhbbfbnicaaA
open Go Go.RowKit
set_option linter.all false
set_option linter.unusedSectionVars false
set_option linter.constructorNameAsVariable false
set_option linter.unusedVariables false
set_option linter.unusedSimpArgs false
def swE (E : List (Nat × Nat)) : List (Nat × Nat) := E.map fun x => (x.2, x.1)
theorem swE_len {E : List (Nat × Nat)} : (swE E).length = E.length := by simp [swE]
theorem swE_at {E : List (Nat × Nat)} {j : Nat} {x : Nat × Nat} (h : E[j]? = some x) : (swE E)[j]? = some (x.2, x.1) := by
  unfold swE
  rw [List.getElem?_map, h]
  rfl
theorem listsUp_run (n : Nat) (E : List (Nat × Nat)) (hn : n ≤ 1000) (hl : E.length ≤ 100000) (hE : ∀ x ∈ E, x.1 < n ∧ x.2 < n) (k : Nat) (hk : 100010 ≤ k) :
    valD Try.prog cf k 51 [.sc (.int .i64 (n : Nat)), mkL 2 (pRows (E.map toI2)), .sc (.bool true)] = some (mkL 1 ((List.range n).map fun i => [mkL 1 (nRows (adjN (swE E) i))])) := by
  obtain ⟨k, rfl⟩ : ∃ j, k = j + 1 := ⟨k - 1, by omega⟩
  have key : ∃ H' vs, arun Try.prog cf (k + 1) 51 [.sc (.int .i64 (n : Nat)), mkL 2 (pRows (E.map toI2)), .sc (.bool true)] [] = some (.own 0 0 n 1 0, H') ∧ AdjAt H' n (adjN (swE E)) vs := by
    rw [arun_body rfl rfl Try.func51 rfl (N := 50) rfl]
    have hw := wraps (n := E.length) (by omega)
    have b1 : n * 24 ≤ 140737488355328 := by omega
    have b2 : n ≤ maxLen := by unfold maxLen; omega
    simp only [R0, RC, zipEnv, Nat.reduceLT, Nat.reduceAdd, Nat.reduceEqDiff, Nat.reduceLeDiff, reduceCtorEq, ↓reduceIte, ares, aresult, pr, Int.reduceEq, Int.reduceLT, Int.reduceLE, Nat.reduceSub, Nat.reduceMul, aFieldAddr, aField, aLoad, aStore, aExtract, aBox, aint, rdVar, rdCells, Value.oneCell', splice, Int.reduceNeg, zvar1, chunks, depth, some_map, Nat.reduceBEq, cf_dyn, okU, Try.f51, rf51, b1, b2]
    generalize hA : aloop _ _ _ _ _ _ _ _ _ _ _ = A
    obtain ⟨s, ⟨vs, H', rfl, hadj⟩, e1⟩ := aloop_inv2 hA [0, 2, 7, 14, 15, 16] (fun j s => ∃ vs H', s = ⟨[(0, .sc (.int .i64 (n : Nat))), (2, .sc (.bool true)), (7, .own 0 0 n 1 0), (14, mkL 2 (pRows (E.map toI2))), (15, .sc (.int .i64 E.length)), (16, .sc (.int .i64 (j : Nat)))], H'⟩ ∧ AdjAt H' n (adjN ((swE E).take j)) vs) E.length (by omega) rfl
      ⟨(List.replicate n [AV.sc (.slice none 0 0)]).flatten, [⟨62, 1, 0, true, (List.replicate n [AV.sc (.slice none 0 0)]).flatten, .cells⟩], by simp only [R0, RC, zipEnv, Nat.reduceLT, Nat.reduceAdd, Nat.reduceEqDiff, Nat.reduceLeDiff, reduceCtorEq, ↓reduceIte, ares, aresult, pr, Int.reduceEq, Int.reduceLT, Int.reduceLE, Nat.reduceSub, Nat.reduceMul, aFieldAddr, aField, aLoad, aStore, aExtract, aBox, aint, rdVar, rdCells, Value.oneCell', splice, Int.reduceNeg, zvar1, chunks, depth, some_map, Nat.reduceBEq, cf_dyn, okU, Try.f51, rf51]; rfl, ⟨by
        simp only [List.length_flatten, List.map_replicate, List.sum_replicate_nat, List.length_cons, List.length_nil]; omega, rfl, fun i v hv => .inl ⟨rfl, by
        have hm := List.mem_of_getElem? hv
        simp only [List.mem_flatten, List.mem_replicate] at hm
        obtain ⟨r, ⟨_, rfl⟩, hr⟩ := hm
        simpa using hr⟩, fun i v b o l s ver hv e => by
        have hm := List.mem_of_getElem? hv
        simp only [List.mem_flatten, List.mem_replicate] at hm
        obtain ⟨r, ⟨_, rfl⟩, hr⟩ := hm
        rw [e] at hr
        simp at hr, fun i j v w b o l s ver o' l' s' ver' _ hv _ e _ => by
        have hm := List.mem_of_getElem? hv
        simp only [List.mem_flatten, List.mem_replicate] at hm
        obtain ⟨r, ⟨_, rfl⟩, hr⟩ := hm
        rw [e] at hr
        simp at hr⟩⟩
      (fun j hj s ⟨vs, H', hs, hadj⟩ => by
        subst hs
        obtain ⟨x, hx⟩ : ∃ x, x = E[j] := ⟨_, rfl⟩
        have xj : E[j]? = some x := by rw [hx]; exact List.getElem?_eq_getElem hj
        have hxm : x ∈ E := by rw [hx]; exact List.getElem_mem hj
        obtain ⟨hx1, hx2⟩ := hE x hxm
        have hlen := adjN_len ((swE E).take j) x.2
        rw [List.length_take, swE_len] at hlen
        obtain ⟨v, v', H2, q1, q2, q3, q4, q5, q6, q7, q8⟩ := adj_app hadj (b := x.1) hx2 (by omega)
        have m1 : ((0 : Int) ≤ (if x.1 < x.2 then (x.1 : Int) else (x.2 : Int))) = True := by simp; split <;> omega
        have m2 : ((if x.2 < x.1 then (x.1 : Int) else (x.2 : Int)) < (n : Int)) = True := by simp; split <;> omega
        have hsp : splice vs x.2 [v'] = vs.set x.2 v' := by
          unfold splice
          rw [List.set_eq_take_append_cons_drop, if_pos (by rw [hadj.len]; exact hx2)]
          simp
        have hvl : x.2 + 1 ≤ vs.length := by rw [hadj.len]; exact hx2
        have hr := adjN_take (swE_at xj)
        refine ⟨_, by
          simp only [R0, RC, zipEnv, Nat.reduceLT, Nat.reduceAdd, Nat.reduceEqDiff, Nat.reduceLeDiff, reduceCtorEq, ↓reduceIte, ares, aresult, pr, Int.reduceEq, Int.reduceLT, Int.reduceLE, Nat.reduceSub, Nat.reduceMul, aFieldAddr, aField, aLoad, aStore, aExtract, aBox, aint, rdVar, rdCells, Value.oneCell', Int.reduceNeg, zvar1, chunks, depth, some_map, Nat.reduceBEq, cf_dyn, okU, Try.f51, rf51, pC, toI2, hj, xj, hw j hj, m1, m2, q2, hx2, q1, q3, q4, q5, q6, q7, hvl, hsp]
          rfl, _, _, rfl, by rw [hr]; exact q8⟩)
      (fun s ⟨vs, H', hs, hadj⟩ => by
        subst hs
        simp only [R0, RC, zipEnv, Nat.reduceLT, Nat.reduceAdd, Nat.reduceEqDiff, Nat.reduceLeDiff, reduceCtorEq, ↓reduceIte, ares, aresult, pr, Int.reduceEq, Int.reduceLT, Int.reduceLE, Nat.reduceSub, Nat.reduceMul, aFieldAddr, aField, aLoad, aStore, aExtract, aBox, aint, rdVar, rdCells, Value.oneCell', splice, Int.reduceNeg, zvar1, chunks, depth, some_map, Nat.reduceBEq, cf_dyn, okU, Try.f51, rf51])
    rw [e1]
    rw [show E.length = (swE E).length from swE_len.symm, List.take_length] at hadj
    exact ⟨H', vs, by simp only [R0, RC, zipEnv, Nat.reduceLT, Nat.reduceAdd, Nat.reduceEqDiff, Nat.reduceLeDiff, reduceCtorEq, ↓reduceIte, ares, aresult, pr, Int.reduceEq, Int.reduceLT, Int.reduceLE, Nat.reduceSub, Nat.reduceMul, aFieldAddr, aField, aLoad, aStore, aExtract, aBox, aint, rdVar, rdCells, Value.oneCell', splice, Int.reduceNeg, zvar1, chunks, depth, some_map, Nat.reduceBEq, cf_dyn, okU, Try.f51, rf51], hadj⟩
  obtain ⟨H', vs, e, h⟩ := key
  exact valD_of e (adj_rb h)
end Go.Proofs.YtigfnhbbfbnicaaA

namespace Go.Proofs.YtigfnhbbfbnicaaA
open Go Go.RowKit
set_option linter.all false
set_option linter.unusedSectionVars false
set_option linter.constructorNameAsVariable false
set_option linter.unusedVariables false
set_option linter.unusedSimpArgs false
def iCells (l : List Int) : List AV := l.map fun v => .sc (.int .i64 v)
theorem iCells_set {l : List Int} {c : Nat} {v : Int} (h : c < l.length) : splice (iCells l) c [.sc (.int .i64 v)] = iCells (l.set c v) := by
  unfold splice iCells
  rw [List.map_set, List.set_eq_take_append_cons_drop, if_pos (by simpa using h)]
  simp
theorem iCells_get {l : List Int} {c : Nat} (h : c < l.length) : (iCells l)[c]? = some (.sc (.int .i64 l[c])) := by
  unfold iCells
  rw [List.getElem?_map, List.getElem?_eq_getElem h]
  rfl
theorem iCells_len {l : List Int} : (iCells l).length = l.length := by simp [iCells]
theorem rep_set {n j : Nat} (h : j < n) : (List.replicate j (-1 : Int) ++ List.replicate (n - j) 0).set j (-1) = List.replicate (j + 1) (-1) ++ List.replicate (n - (j + 1)) 0 := by
  rw [List.set_append_right _ _ (by simp)]
  have e : n - j = (n - (j + 1)) + 1 := by omega
  rw [e, List.replicate_succ, List.length_replicate, Nat.sub_self, List.set_cons_zero, List.replicate_succ', List.append_assoc]
  rfl
def GH (n : Nat) (G : List Int) (tl : List Blk) : List Blk := ⟨3, 1, 0, true, iCells G, .cells⟩ :: ⟨62, 1, 0, false, [.own 0 0 n 1 0], .cells⟩ :: tl
def markG (G : List Int) (l : List Nat) (m : Int) : List Int := l.foldl (fun G k => G.set k m) G
theorem markG_len {m : Int} : ∀ (l : List Nat) (G : List Int), (markG G l m).length = G.length
  | [], _ => rfl
  | k :: l, G => by
    have := markG_len (m := m) l (G.set k m)
    unfold markG at *
    rw [List.foldl_cons, this, List.length_set]
def bothL (M1 M2 : List Bool) (j : Nat) : List Nat := (List.range j).filter fun k => decide (M1[k]? = some true) && decide (M2[k]? = some true)
theorem bothL_succ {M1 M2 : List Bool} {j : Nat} {a b : Bool} (h1 : M1[j]? = some a) (h2 : M2[j]? = some b) : bothL M1 M2 (j + 1) = bothL M1 M2 j ++ if (a && b) = true then [j] else [] := by
  unfold bothL
  rw [List.range_succ, List.filter_append]
  cases a <;> cases b <;> simp [h1, h2]
theorem bothL_len (M1 M2 : List Bool) (j : Nat) : (bothL M1 M2 j).length ≤ j := by
  unfold bothL
  exact Nat.le_trans (List.length_filter_le _ _) (by simp)
set_option maxHeartbeats 1000000 in
theorem comps_inner {n k m i : Nat} {M1 M2 : List Bool} (h1 : M1.length = n) (h2 : M2.length = n) (hn : n ≤ 1000) (hk : 2000 ≤ k) {G : List Int} (hG : G.length = n) {v9 X5 X6 : AV} (hv9 : ∀ H, aLen Try.prog H 69 v9 = some (.val (.sc (.int .i64 (m : Nat))))) {tl : List Blk} {jump : Code → Code → St → Option (AX × St)} {s0 : St} {R : Option (AX × St)}
    (h : aloop Try.prog (acall cf.mode false (arun Try.prog cf k)) (acall cf.mode true (arun Try.prog cf k)) jump (pureOf cf.mode) (cf.dyn 23) (cf.keep 23) 136 k (loopAt Try.f23 17) s0 = R)
    (h0 : pr [0, 5, 6, 7, 9, 11, 12, 13, 42, 43, 57, 58] s0 = ⟨[(0, .sc (.int .i64 (n : Nat))), (5, X5), (6, X6), (7, .ptr 1 0 0), (9, .ptr 2 0 0), (11, .sc (.slice none 0 0)), (12, mkL 1 (M1.map fun b => [.sc (.bool b)])), (13, mkL 1 (M2.map fun b => [.sc (.bool b)])), (42, .sc (.int .i64 (n : Nat))), (43, .sc (.int .i64 (i : Nat))), (57, .sc (.int .i64 (n : Nat))), (58, .sc (.int .i64 0))], GH n G (⟨69, 1, 0, false, [v9], .cells⟩ :: tl)⟩) :
    R = some (.exit 4, ⟨[(0, .sc (.int .i64 (n : Nat))), (5, X5), (6, X6), (7, .ptr 1 0 0), (9, .ptr 2 0 0), (11, accV (tl.length + 3) 1 (nRows (bothL M1 M2 n))), (12, mkL 1 (M1.map fun b => [.sc (.bool b)])), (13, mkL 1 (M2.map fun b => [.sc (.bool b)])), (42, .sc (.int .i64 (n : Nat))), (43, .sc (.int .i64 (i : Nat))), (57, .sc (.int .i64 (n : Nat))), (58, .sc (.int .i64 (n : Nat))), (59, .sc (.bool false))], GH n (markG G (bothL M1 M2 n) m) (⟨69, 1, 0, false, [v9], .cells⟩ :: tl) ++ accB 3 1 (nRows (bothL M1 M2 n))⟩) := by
  have hw := wraps (n := n) (by omega)
  refine aloop_eqR h [0, 5, 6, 7, 9, 11, 12, 13, 42, 43, 57, 58] (fun j => ⟨[(0, .sc (.int .i64 (n : Nat))), (5, X5), (6, X6), (7, .ptr 1 0 0), (9, .ptr 2 0 0), (11, accV (tl.length + 3) 1 (nRows (bothL M1 M2 j))), (12, mkL 1 (M1.map fun b => [.sc (.bool b)])), (13, mkL 1 (M2.map fun b => [.sc (.bool b)])), (42, .sc (.int .i64 (n : Nat))), (43, .sc (.int .i64 (i : Nat))), (57, .sc (.int .i64 (n : Nat))), (58, .sc (.int .i64 (j : Nat)))], GH n (markG G (bothL M1 M2 j) m) (⟨69, 1, 0, false, [v9], .cells⟩ :: tl) ++ accB 3 1 (nRows (bothL M1 M2 j))⟩) n (by omega) rfl (by rw [h0]; simp [bothL, nRows, accV, accB, markG]) (fun j hj => by
      obtain ⟨a, ha⟩ : ∃ a, M1[j]? = some a := ⟨M1[j]'(by omega), List.getElem?_eq_getElem (by omega)⟩
      obtain ⟨b, hb⟩ : ∃ b, M2[j]? = some b := ⟨M2[j]'(by omega), List.getElem?_eq_getElem (by omega)⟩
      have hs := bothL_succ ha hb
      have hL := bothL_len M1 M2 j
      have hml := markG_len (m := m) (bothL M1 M2 j) G
      have hmk : markG G (bothL M1 M2 j ++ [j]) m = (markG G (bothL M1 M2 j) m).set j m := by
        unfold markG
        rw [List.foldl_append]
        rfl
      generalize bothL M1 M2 j = L at *
      cases a with
      | false =>
        simp only [Bool.false_and, Bool.false_eq_true, if_false, List.append_nil] at hs
        rw [hs]
        simp only [R0, RC, zipEnv, Nat.reduceLT, Nat.reduceAdd, Nat.reduceEqDiff, Nat.reduceLeDiff, reduceCtorEq, ↓reduceIte, ares, aresult, pr, Int.reduceEq, Int.reduceLT, Int.reduceLE, Nat.reduceSub, Nat.reduceMul, aFieldAddr, aField, aLoad, aStore, aExtract, aBox, aint, rdVar, rdCells, Value.oneCell', splice, Int.reduceNeg, zvar1, chunks, depth, some_map, Nat.reduceBEq, cf_dyn, okU, Try.f23, rf23, loopAt, findLoop, firstId, Option.getD_some, Option.some.injEq, Nat.reduceEqDiff, if_false, if_true, hj, hw j hj, ha, hb]
        done
      | true =>
        cases b with
        | false =>
          simp only [Bool.true_and, Bool.false_eq_true, if_false, List.append_nil] at hs
          rw [hs]
          simp only [R0, RC, zipEnv, Nat.reduceLT, Nat.reduceAdd, Nat.reduceEqDiff, Nat.reduceLeDiff, reduceCtorEq, ↓reduceIte, ares, aresult, pr, Int.reduceEq, Int.reduceLT, Int.reduceLE, Nat.reduceSub, Nat.reduceMul, aFieldAddr, aField, aLoad, aStore, aExtract, aBox, aint, rdVar, rdCells, Value.oneCell', splice, Int.reduceNeg, zvar1, chunks, depth, some_map, Nat.reduceBEq, cf_dyn, okU, Try.f23, rf23, loopAt, findLoop, firstId, Option.getD_some, Option.some.injEq, Nat.reduceEqDiff, if_false, if_true, hj, hw j hj, ha, hb]
          done
        | true =>
          simp only [Bool.true_and, if_true] at hs
          rw [hs, hmk]
          generalize markG G L m = G1 at *
          have hst := iCells_set (l := G1) (c := j) (v := m) (by omega)
          have hle : (j + 1 ≤ (iCells G1).length) = True := by rw [iCells_len]; simp; omega
          have happ := acc1 (P := Try.prog) (H := GH n (G1.set j m) (⟨69, 1, 0, false, [v9], .cells⟩ :: tl)) (rows := nRows L) (r := [.sc (.int .i64 (j : Nat))]) ro62 nRows_row rfl rfl (by simp [nRows]; omega) (by simp [nRows]; unfold maxLen; omega)
          have e2 : nRows (L ++ [j]) = nRows L ++ [[.sc (.int .i64 (j : Nat))]] := by simp [nRows]
          rw [← e2] at happ
          unfold GH at happ ⊢
          simp only [List.cons_append, List.length_cons] at happ
          simp only [R0, RC, zipEnv, Nat.reduceLT, Nat.reduceAdd, Nat.reduceEqDiff, Nat.reduceLeDiff, reduceCtorEq, ↓reduceIte, ares, aresult, pr, Int.reduceEq, Int.reduceLT, Int.reduceLE, Nat.reduceSub, Nat.reduceMul, aFieldAddr, aField, aLoad, aStore, aExtract, aBox, aint, rdVar, rdCells, Value.oneCell', Int.reduceNeg, zvar1, chunks, depth, some_map, Nat.reduceBEq, cf_dyn, okU, Try.f23, rf23, loopAt, findLoop, firstId, Option.getD_some, Option.some.injEq, Nat.reduceEqDiff, if_false, if_true, hj, hw j hj, ha, hb, hst, hle, hv9, happ, List.cons_append, List.length_cons]
          done) (by simp only [R0, RC, zipEnv, Nat.reduceLT, Nat.reduceAdd, Nat.reduceEqDiff, Nat.reduceLeDiff, reduceCtorEq, ↓reduceIte, ares, aresult, pr, Int.reduceEq, Int.reduceLT, Int.reduceLE, Nat.reduceSub, Nat.reduceMul, aFieldAddr, aField, aLoad, aStore, aExtract, aBox, aint, rdVar, rdCells, Value.oneCell', splice, Int.reduceNeg, zvar1, chunks, depth, some_map, Nat.reduceBEq, cf_dyn, okU, Try.f23, rf23, loopAt, findLoop, firstId, Option.getD_some, Option.some.injEq, Nat.reduceEqDiff, if_false, if_true]) rfl
end Go.Proofs.YtigfnhbbfbnicaaA

namespace Go.Proofs.YtigfnhbbfbnicaaA
open Go Go.RowKit
set_option linter.all false
set_option linter.unusedSectionVars false
set_option linter.constructorNameAsVariable false
set_option linter.unusedVariables false
set_option linter.unusedSimpArgs false
def lb (l : List Nat) : Blk := ⟨3, 1, l.length - 1, true, (nRows l).flatten, .cells⟩
def gB (i : Nat) : Nat := if i = 0 then 3 else 2 * i + 4
def ownL (i : Nat) (l : List Nat) : AV := .own (gB i) 0 l.length 1 (l.length - 1)
def gV (Ls : List (List Nat)) : List AV := Ls.mapIdx ownL
def g9 (Ls : List (List Nat)) : AV := if Ls = [] then .sc (.slice none 0 0) else .own 5 0 Ls.length 1 (Ls.length - 1)
def tb (i : Nat) (l : List Nat) : Blk := ⟨62, 1, 0, true, [ownL i l], .cells⟩
def gR : Nat → List (List Nat) → List Blk
  | _, [] => []
  | i, l :: Ls => lb l :: tb i l :: gR (i + 1) Ls
def gT : List (List Nat) → List Blk
  | [] => []
  | l :: Ls => lb l :: tb 0 l :: ⟨62, 1, Ls.length, true, gV (l :: Ls), .cells⟩ :: gR 1 Ls
theorem gR_len : ∀ (i : Nat) (Ls : List (List Nat)), (gR i Ls).length = 2 * Ls.length
  | _, [] => rfl
  | i, l :: Ls => by
    have := gR_len (i + 1) Ls
    unfold gR
    simp only [List.length_cons, this]
    omega
theorem gR_app : ∀ (i : Nat) (Ls : List (List Nat)) (l : List Nat), gR i (Ls ++ [l]) = gR i Ls ++ [lb l, tb (i + Ls.length) l]
  | i, [], l => rfl
  | i, x :: Ls, l => by
    have := gR_app (i + 1) Ls l
    simp only [List.cons_append, gR, this, List.length_cons]
    rw [show i + 1 + Ls.length = i + (Ls.length + 1) by omega]
theorem gT_len {Ls : List (List Nat)} : (gT Ls).length + 3 = gB Ls.length := by
  cases Ls with
  | nil => rfl
  | cons l Ls =>
    simp only [gT, gB, List.length_cons, gR_len]
    split <;> omega
theorem gV_app {Ls : List (List Nat)} {l : List Nat} : gV (Ls ++ [l]) = gV Ls ++ [ownL Ls.length l] := by
  unfold gV
  rw [List.mapIdx_append]
  simp
theorem g9_len {Ls : List (List Nat)} (H : List Blk) : aLen Try.prog H 69 (g9 Ls) = some (.val (.sc (.int .i64 (Ls.length : Nat)))) := by
  unfold g9
  split
  · rename_i h
    subst h
    exact aLen_nil Try.underlying69
  · exact aLen_slice Try.underlying69 rfl
theorem g9_own {Ls : List (List Nat)} : solid (g9 Ls) = true ∧ acells (g9 Ls) = [g9 Ls] ∧ one (g9 Ls) = true := by
  unfold g9
  split <;> exact ⟨rfl, rfl, rfl⟩
theorem acc_lb {l : List Nat} (h : l ≠ []) : accB 3 1 (nRows l) = [lb l] ∧ ∀ b, accV b 1 (nRows l) = .own b 0 l.length 1 (l.length - 1) := by
  have hn : nRows l ≠ [] := by unfold nRows; simpa using h
  have hl : (nRows l).length = l.length := by unfold nRows; simp
  unfold accB accV lb
  rw [if_neg hn, hl]
  exact ⟨rfl, fun b => by rw [if_neg hn]⟩
theorem app_same {P : Program} {H : List Blk} {t : TypeId} {s x y : AV} (h : ∀ z, elems H x z = elems H y z) : aappend P H t s x = aappend P H t s y := by
  unfold aappend
  simp only [h]
theorem g_app {n : Nat} {G : List Int} {Ls : List (List Nat)} {l : List Nat} {q9 : Blk} (hl : Ls.length ≤ 1000) : outH (GH n G (q9 :: (gT Ls ++ [lb l, tb Ls.length l]))) (aappend Try.prog (GH n G (q9 :: (gT Ls ++ [lb l, tb Ls.length l]))) 69 (g9 Ls) (mkL 1 [[ownL Ls.length l]])) = some (g9 (Ls ++ [l]), GH n G (q9 :: gT (Ls ++ [l]))) := by
  cases Ls with
  | nil =>
    have h := acc1 (P := Try.prog) (H := GH n G (q9 :: [lb l, tb 0 l])) (rows := []) (r := [ownL 0 l]) ro69 (fun _ h => by cases h) rfl rfl (by decide) (by decide)
    simp only [accB_nil, accV_nil, List.append_nil, List.nil_append] at h
    have e : accV (GH n G (q9 :: [lb l, tb 0 l])).length 1 [[ownL 0 l]] = g9 ([] ++ [l]) := rfl
    rw [e] at h
    exact h
  | cons l0 Ls =>
    have hv : (gV (l0 :: Ls)).length = Ls.length + 1 := by unfold gV; simp
    have hrow : ∀ vs : List AV, (vs.map fun v => [v]).flatten = vs := flat_one
    have h := app_oj (P := Try.prog) (H := GH n G (q9 :: (gT (l0 :: Ls) ++ [lb l, tb (Ls.length + 1) l]))) (b := 5) (ver := Ls.length) (rows := (gV (l0 :: Ls)).map fun v => [v]) (more := [[ownL (Ls.length + 1) l]]) (junk := []) ro69 (by rw [hrow, List.append_nil]; rfl) (fun r hr => by
      obtain ⟨_, _, rfl⟩ := List.mem_map.1 hr
      rfl) (by simp) (fun r hr => by rw [List.mem_singleton] at hr; subst hr; rfl) (by simp only [List.length_map, hv, List.length_singleton]; simp only [List.length_cons] at hl; omega) (by simp only [List.length_map, hv, List.length_singleton]; simp only [List.length_cons] at hl; unfold maxLen; omega)
    rw [List.length_map, hv, hrow] at h
    have e1 : g9 (l0 :: Ls) = .own 5 0 (Ls.length + 1) 1 Ls.length := rfl
    rw [e1, List.length_cons, h]
    have e2 : gV (l0 :: Ls) ++ [[ownL (Ls.length + 1) l]].flatten = gV (l0 :: (Ls ++ [l])) := by
      rw [← List.cons_append, gV_app]
      rfl
    rw [e2]
    have e3 : (Ls ++ [l]).length = Ls.length + 1 := by simp
    have e4 : 1 + Ls.length = Ls.length + 1 := by omega
    simp only [outH, GH, gT, g9, List.cons_append, gR_app, e3, e4, List.length_cons, List.length_singleton, reduceCtorEq, if_false, Nat.add_sub_cancel]
    rfl
noncomputable def mutL (n : Nat) (E : List (Nat × Nat)) (i : Nat) : List Nat := by
  classical exact (List.range n).filter fun k => decide (Rch (adjN E) i k) && decide (Rch (adjN (swE E)) i k)
theorem both_mut {n i : Nat} {E : List (Nat × Nat)} {M1 M2 : List Bool} (h1 : ∀ v, isM M1 v ↔ Rch (adjN E) i v) (h2 : ∀ v, isM M2 v ↔ Rch (adjN (swE E)) i v) : bothL M1 M2 n = mutL n E i := by
  classical
  unfold bothL mutL
  congr 1
  funext k
  have a := h1 k
  have b := h2 k
  unfold isM at a b
  simp only [a, b]
noncomputable def grpS (n : Nat) (E : List (Nat × Nat)) (s : List Int × List (List Nat)) (i : Nat) : List Int × List (List Nat) :=
  if 0 ≤ s.1.getD i (-1) then s else (markG s.1 (mutL n E i) s.2.length, s.2 ++ [mutL n E i])
end Go.Proofs.YtigfnhbbfbnicaaA

namespace Go.Proofs.YtigfnhbbfbnicaaA
open Go Go.RowKit
set_option linter.all false
set_option linter.unusedSectionVars false
set_option linter.constructorNameAsVariable false
set_option linter.unusedVariables false
set_option linter.unusedSimpArgs false
theorem swE_lt {n : Nat} {E : List (Nat × Nat)} (h : ∀ x ∈ E, x.1 < n ∧ x.2 < n) : ∀ x ∈ swE E, x.1 < n ∧ x.2 < n := fun x hx => by
  unfold swE at hx
  obtain ⟨y, hy, rfl⟩ := List.mem_map.1 hx
  exact ⟨(h y hy).2, (h y hy).1⟩
theorem adjN_lt {n : Nat} {E : List (Nat × Nat)} (hE : ∀ x ∈ E, x.1 < n ∧ x.2 < n) : ∀ i, ∀ c ∈ adjN E i, c < n := by
  intro i c hc
  unfold adjN at hc
  obtain ⟨x, hx, rfl⟩ := List.mem_map.1 hc
  exact (hE x (List.mem_filter.1 hx).1).2
set_option maxHeartbeats 1000000 in
theorem comps_groups {n k : Nat} {E : List (Nat × Nat)} (hn : n ≤ 1000) (hl : E.length ≤ 100000) (hE : ∀ x ∈ E, x.1 < n ∧ x.2 < n) (hk : 300000 ≤ k) {jump : Code → Code → St → Option (AX × St)} {s0 : St} {R : Option (AX × St)} {G0 : List Int} (hG0 : G0.length = n)
    (h : aloop Try.prog (acall cf.mode false (arun Try.prog cf k)) (acall cf.mode true (arun Try.prog cf k)) jump (pureOf cf.mode) (cf.dyn 23) (cf.keep 23) 136 k (loopAt Try.f23 11) s0 = R)
    (h0 : pr [0, 5, 6, 7, 9, 42, 43] s0 = ⟨[(0, .sc (.int .i64 (n : Nat))), (5, .ro [mkL 1 ((List.range n).map fun i => [mkL 1 (nRows (adjN E i))])]), (6, mkL 1 ((List.range n).map fun i => [mkL 1 (nRows (adjN (swE E) i))])), (7, .ptr 1 0 0), (9, .ptr 2 0 0), (42, .sc (.int .i64 (n : Nat))), (43, .sc (.int .i64 0))], GH n G0 (⟨69, 1, 0, false, [g9 []], .cells⟩ :: gT [])⟩) :
    ∃ G Ls, (G, Ls) = (List.range n).foldl (grpS n E) (G0, []) ∧ G.length = n ∧ Ls.length ≤ n ∧ R = some (.exit 2, ⟨[(0, .sc (.int .i64 (n : Nat))), (5, .ro [mkL 1 ((List.range n).map fun i => [mkL 1 (nRows (adjN E i))])]), (6, mkL 1 ((List.range n).map fun i => [mkL 1 (nRows (adjN (swE E) i))])), (7, .ptr 1 0 0), (9, .ptr 2 0 0), (42, .sc (.int .i64 (n : Nat))), (43, .sc (.int .i64 (n : Nat))), (44, .sc (.bool false))], GH n G (⟨69, 1, 0, false, [g9 Ls], .cells⟩ :: gT Ls)⟩) := by
  have hw := wraps (n := n) (by omega)
  have e1 := aloop_inv2 h [0, 5, 6, 7, 9, 42, 43] (fun j s => ∃ G Ls, (G, Ls) = (List.range j).foldl (grpS n E) (G0, []) ∧ G.length = n ∧ Ls.length ≤ j ∧ s = ⟨[(0, .sc (.int .i64 (n : Nat))), (5, .ro [mkL 1 ((List.range n).map fun i => [mkL 1 (nRows (adjN E i))])]), (6, mkL 1 ((List.range n).map fun i => [mkL 1 (nRows (adjN (swE E) i))])), (7, .ptr 1 0 0), (9, .ptr 2 0 0), (42, .sc (.int .i64 (n : Nat))), (43, .sc (.int .i64 (j : Nat)))], GH n G (⟨69, 1, 0, false, [g9 Ls], .cells⟩ :: gT Ls)⟩) n (by omega) rfl ⟨G0, [], rfl, hG0, by simp, h0⟩ (fun j hj s ⟨G, Ls, hf, hG, hLs, hs⟩ => by
      subst hs
      have hgj := iCells_get (l := G) (c := j) (by omega)
      have hstep : (List.range (j + 1)).foldl (grpS n E) (G0, []) = grpS n E (G, Ls) j := by
        rw [List.range_succ, List.foldl_append, ← hf]
        rfl
      have hgd : G.getD j (-1) = G[j]'(by omega) := by rw [List.getD_eq_getElem?_getD, List.getElem?_eq_getElem (by omega)]; rfl
      rw [hstep]
      unfold grpS
      simp only
      rw [hgd]
      by_cases hp : 0 ≤ G[j]'(by omega)
      · rw [if_pos hp]
        unfold GH
        exact ⟨_, by
          simp only [R0, RC, zipEnv, Nat.reduceLT, Nat.reduceAdd, Nat.reduceEqDiff, Nat.reduceLeDiff, reduceCtorEq, ↓reduceIte, ares, aresult, pr, Int.reduceEq, Int.reduceLT, Int.reduceLE, Nat.reduceSub, Nat.reduceMul, aFieldAddr, aField, aLoad, aStore, aExtract, aBox, aint, rdVar, rdCells, Value.oneCell', splice, Int.reduceNeg, zvar1, chunks, depth, some_map, Nat.reduceBEq, cf_dyn, okU, Try.f23, rf23, loopAt, findLoop, firstId, Option.getD_some, Option.some.injEq, Nat.reduceEqDiff, if_false, if_true, hj, hw j hj, hgj, hp], G, Ls, rfl, hG, by omega, rfl⟩
      · rw [if_neg hp]
        obtain ⟨M1, a1, a2, a3⟩ := seen_run n j (adjN E) hn hj (adjN_lt hE) (fun i => Nat.le_trans (adjN_len E i) hl) k (by omega)
        obtain ⟨M2, c1, c2, c3⟩ := seen_run n j (adjN (swE E)) hn hj (adjN_lt (swE_lt hE)) (fun i => Nat.le_trans (adjN_len (swE E) i) (by rw [swE_len]; exact hl)) k (by omega)
        have hboth := both_mut (n := n) a2 c2
        have hin := fun (s0 : St) (R : Option (AX × St)) (X5 X6 : AV) (jump : Code → Code → St → Option (AX × St)) => comps_inner (n := n) (k := k) (m := Ls.length) (i := j) (M1 := M1) (M2 := M2) a1 c1 hn (by omega) (G := G) hG (v9 := g9 Ls) (X5 := X5) (X6 := X6) (fun H => g9_len H) (tl := gT Ls) (jump := jump) (s0 := s0) (R := R)
        unfold adjV at a3 c3
        have hgH : GH n G (⟨69, 1, 0, false, [g9 Ls], .cells⟩ :: gT Ls) = GH n G (⟨69, 1, 0, false, [g9 Ls], .cells⟩ :: gT Ls) := rfl
        unfold GH
        simp only [R0, RC, zipEnv, Nat.reduceLT, Nat.reduceAdd, Nat.reduceEqDiff, Nat.reduceLeDiff, reduceCtorEq, ↓reduceIte, ares, aresult, pr, Int.reduceEq, Int.reduceLT, Int.reduceLE, Nat.reduceSub, Nat.reduceMul, aFieldAddr, aField, aLoad, aStore, aExtract, aBox, aint, rdVar, rdCells, Value.oneCell', splice, Int.reduceNeg, zvar1, chunks, depth, some_map, Nat.reduceBEq, cf_dyn, okU, Try.f23, rf23, loopAt, findLoop, firstId, Option.getD_some, Option.some.injEq, Nat.reduceEqDiff, if_false, if_true, hj, hw j hj, hgj, hp, a3, c3]
        generalize hB : aloop _ _ _ _ _ _ _ _ _ _ _ = B
        have eB := hin _ _ _ _ _ hB (by simp only [R0, RC, zipEnv, Nat.reduceLT, Nat.reduceAdd, Nat.reduceEqDiff, Nat.reduceLeDiff, reduceCtorEq, ↓reduceIte, ares, aresult, pr, Int.reduceEq, Int.reduceLT, Int.reduceLE, Nat.reduceSub, Nat.reduceMul, aFieldAddr, aField, aLoad, aStore, aExtract, aBox, aint, rdVar, rdCells, Value.oneCell', splice, Int.reduceNeg, zvar1, chunks, depth, some_map, Nat.reduceBEq, cf_dyn, okU, Try.f23, rf23, GH]; try rfl)
        rw [eB, hboth]
        have hjm : j ∈ mutL n E j := by
          classical
          unfold mutL
          simp only [List.mem_filter, List.mem_range, Bool.and_eq_true, decide_eq_true_eq]
          exact ⟨hj, .refl, .refl⟩
        have hne : mutL n E j ≠ [] := by intro e; rw [e] at hjm; cases hjm
        obtain ⟨l1, l2⟩ := acc_lb hne
        have happ := g_app (n := n) (G := markG G (mutL n E j) Ls.length) (Ls := Ls) (l := mutL n E j) (q9 := ⟨69, 1, 0, false, [g9 Ls], .cells⟩) (by omega)
        rw [l1, l2, gT_len]
        have hel : ∀ z, elems (GH n (markG G (mutL n E j) Ls.length) (⟨69, 1, 0, false, [g9 Ls], .cells⟩ :: (gT Ls ++ [lb (mutL n E j), tb Ls.length (mutL n E j)]))) (.own (gB Ls.length + 1) 0 1 1 0) z = elems (GH n (markG G (mutL n E j) Ls.length) (⟨69, 1, 0, false, [g9 Ls], .cells⟩ :: (gT Ls ++ [lb (mutL n E j), tb Ls.length (mutL n E j)]))) (mkL 1 [[ownL Ls.length (mutL n E j)]]) z := fun z => by
          have hb : (GH n (markG G (mutL n E j) Ls.length) (⟨69, 1, 0, false, [g9 Ls], .cells⟩ :: (gT Ls ++ [lb (mutL n E j), tb Ls.length (mutL n E j)])))[gB Ls.length + 1]? = some (tb Ls.length (mutL n E j)) := by
            rw [← gT_len]
            unfold GH
            simp only [List.getElem?_cons_succ]
            rw [List.getElem?_append_right (by omega), show (gT Ls).length + 1 - (gT Ls).length = 1 by omega]
            rfl
          simp only [elems, mkL]
          have hb2 : blkAt (GH n (markG G (mutL n E j) Ls.length) (⟨69, 1, 0, false, [g9 Ls], .cells⟩ :: (gT Ls ++ [lb (mutL n E j), tb Ls.length (mutL n E j)]))) (gB Ls.length + 1) 0 = some (tb Ls.length (mutL n E j)) := blkAt_some' hb rfl rfl
          rw [hb2]
          by_cases hz : 1 = z
          · subst hz; rfl
          · simp [hz]
        rw [← app_same hel] at happ
        have hlen3 : (gT Ls ++ [lb (mutL n E j)]).length + 1 + 1 + 1 = gB Ls.length + 1 := by rw [← gT_len, List.length_append]; simp
        unfold GH tb ownL at happ
        unfold GH
        simp only [List.cons_append]
        obtain ⟨w1, w2, w3⟩ := g9_own (Ls := Ls ++ [mutL n E j])
        have hpv : ∀ b o l s v, pv 40 (AV.own b o l s v) = false := fun _ _ _ _ _ => rfl
        exact ⟨_, by
          simp only [R0, RC, zipEnv, Nat.reduceLT, Nat.reduceAdd, Nat.reduceEqDiff, Nat.reduceLeDiff, reduceCtorEq, ↓reduceIte, ares, aresult, pr, Int.reduceEq, Int.reduceLT, Int.reduceLE, Nat.reduceSub, Nat.reduceMul, aFieldAddr, aField, aLoad, aStore, aExtract, aBox, aint, rdVar, rdCells, Value.oneCell', splice, Int.reduceNeg, zvar1, chunks, depth, some_map, Nat.reduceBEq, cf_dyn, okU, Try.f23, rf23, hw j hj, hlen3, List.append_assoc, List.cons_append, List.nil_append, happ, hpv, w1, w2, w3], _, _, rfl, by rw [markG_len]; exact hG, by simp; omega, rfl⟩) (fun s ⟨G, Ls, hf, hG, hLs, hs⟩ => by
      subst hs
      simp only [R0, RC, zipEnv, Nat.reduceLT, Nat.reduceAdd, Nat.reduceEqDiff, Nat.reduceLeDiff, reduceCtorEq, ↓reduceIte, ares, aresult, pr, Int.reduceEq, Int.reduceLT, Int.reduceLE, Nat.reduceSub, Nat.reduceMul, aFieldAddr, aField, aLoad, aStore, aExtract, aBox, aint, rdVar, rdCells, Value.oneCell', splice, Int.reduceNeg, zvar1, chunks, depth, some_map, Nat.reduceBEq, cf_dyn, okU, Try.f23, rf23, loopAt, findLoop, firstId, Option.getD_some, Option.some.injEq, Nat.reduceEqDiff, if_false, if_true])
  obtain ⟨s, ⟨G, Ls, hf, hG, hLs, hs⟩, e⟩ := e1
  subst hs
  refine ⟨G, Ls, hf, hG, hLs, ?_⟩
  rw [e]
  simp only [R0, RC, zipEnv, Nat.reduceLT, Nat.reduceAdd, Nat.reduceEqDiff, Nat.reduceLeDiff, reduceCtorEq, ↓reduceIte, ares, aresult, pr, Int.reduceEq, Int.reduceLT, Int.reduceLE, Nat.reduceSub, Nat.reduceMul, aFieldAddr, aField, aLoad, aStore, aExtract, aBox, aint, rdVar, rdCells, Value.oneCell', splice, Int.reduceNeg, zvar1, chunks, depth, some_map, Nat.reduceBEq, cf_dyn, okU, Try.f23, rf23, loopAt, findLoop, firstId, Option.getD_some, Option.some.injEq, Nat.reduceEqDiff, if_false, if_true]
end Go.Proofs.YtigfnhbbfbnicaaA
