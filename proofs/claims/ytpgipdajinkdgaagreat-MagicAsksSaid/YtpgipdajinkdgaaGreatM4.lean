/- adorn.Prune, magic.holds, (magic.book).use. -/
import Derived.Test.YtpgipdajinkdgaaGreatC
import Derived.Test.YtpgipdajinkdgaaGreatMN
import Derived.Test.YtpgipdajinkdgaaGreatE2
import Derived.Test.YtpgipdajinkdgaaGreatN23
import Derived.Test.YtpgipdajinkdgaaGreatM1
namespace Go.Proofs.YtpgipdajinkdgaaGreatA
open Go Go.RowKit
set_option linter.all false
set_option linter.unusedSectionVars false
set_option linter.constructorNameAsVariable false
set_option linter.unusedVariables false
set_option linter.unusedSimpArgs false
def othB (d o : D2) : Bool := !decide (o = d) && covD o d
theorem clo_prune (o d : D2) (hs : o.2.size ≤ 1000) (k : Nat) (hk : 1003 ≤ k) : val Tryz.prog cf k 56 [.agg o.c, .ro d.c] = some (.sc (.bool (othB d o))) := by
  obtain ⟨k, rfl⟩ : ∃ j, k = j + 1 := ⟨k - 1, by omega⟩
  refine val_of (r := .sc (.bool (othB d o))) (H1 := []) ?_ rfl rfl
  have hc := acovers_run o d hs k (by omega)
  rw [arun_body rfl rfl Tryz.func56 rfl (N := 12) rfl]
  unfold othB
  by_cases e : o = d
  · simp only [R0, RC, zipEnv, Nat.reduceLT, Nat.reduceAdd, Nat.reduceEqDiff, Nat.reduceLeDiff, reduceCtorEq, ↓reduceIte, ares, aresult, pr, Int.reduceEq, Int.reduceLT, Int.reduceLE, Nat.reduceSub, Nat.reduceMul, aFieldAddr, aField, aLoad, aStore, aExtract, aBox, aint, rdVar, rdCells, Value.oneCell', splice, Int.reduceNeg, zvar1, chunks, depth, some_map, Nat.reduceBEq, cf_dyn, okU, Tryz.f56, rf56, D2.c, neA, eqD, e, hc]
  · simp only [R0, RC, zipEnv, Nat.reduceLT, Nat.reduceAdd, Nat.reduceEqDiff, Nat.reduceLeDiff, reduceCtorEq, ↓reduceIte, ares, aresult, pr, Int.reduceEq, Int.reduceLT, Int.reduceLE, Nat.reduceSub, Nat.reduceMul, aFieldAddr, aField, aLoad, aStore, aExtract, aBox, aint, rdVar, rdCells, Value.oneCell', splice, Int.reduceNeg, zvar1, chunks, depth, some_map, Nat.reduceBEq, cf_dyn, okU, Tryz.f56, rf56, D2.c, neA, eqD, e, hc]
def pruS (l : List D2) (out : List D2) (d : D2) : List D2 := if (!(out.any fun x => decide (d = x)) && !l.any (othB d)) = true then out ++ [d] else out
def pruneT (l : List D2) : List D2 := l.foldl (pruS l) []
theorem pruS_len (l : List D2) : ∀ (m : List D2) (out : List D2), (m.foldl (pruS l) out).length ≤ out.length + m.length
  | [], out => by simp
  | d :: m, out => by
    have := pruS_len l m (pruS l out d)
    have h2 : (pruS l out d).length ≤ out.length + 1 := by
      unfold pruS
      split <;> simp
    simp only [List.foldl_cons, List.length_cons]
    omega
theorem othersFn (l : List D2) (d : D2) (hl : l.length ≤ 1000) (hs : ∀ x ∈ l, x.2.size ≤ 1000) (k : Nat) (hk : 1010 ≤ k) : val Tryz.prog cf k 58 [mkL 2 (l.map D2.c), .fn 56 [.ro [.sc (.string d.1), .sc (.string d.2)]]] = some (.sc (.bool (l.any (othB d)))) := by
  obtain ⟨k, rfl⟩ : ∃ j, k = j + 1 := ⟨k - 1, by omega⟩
  refine val_of (r := .sc (.bool (l.any (othB d)))) (H1 := []) ?_ rfl rfl
  have hi := indexFunc_run (g := 56) (caps := [.ro [.sc (.string d.1), .sc (.string d.2)]]) rfl (noExt_of Tryz.func56 rfl) (fun H => rfl) l (othB d) hl k (by omega) (fun x hx => clo_prune x d (hs x hx) (k - 1) (by omega))
  rw [arun_body rfl rfl Tryz.func58 rfl (N := 9) rfl]
  simp only [R0, RC, zipEnv, Nat.reduceLT, Nat.reduceAdd, Nat.reduceEqDiff, Nat.reduceLeDiff, reduceCtorEq, ↓reduceIte, ares, aresult, pr, Int.reduceEq, Int.reduceLT, Int.reduceLE, Nat.reduceSub, Nat.reduceMul, aFieldAddr, aField, aLoad, aStore, aExtract, aBox, aint, rdVar, rdCells, Value.oneCell', splice, Int.reduceNeg, zvar1, chunks, depth, some_map, Nat.reduceBEq, cf_dyn, okU, Tryz.f58, rf58, hi, idx_any]
theorem prune_run (l : List D2) (hl : l.length ≤ 1000) (hs : ∀ x ∈ l, x.2.size ≤ 1000) (k : Nat) (hk : 1020 ≤ k) : val Tryz.prog cf k 28 [mkL 2 (l.map D2.c)] = some (mkL 2 ((pruneT l).map D2.c)) := by
  obtain ⟨k, rfl⟩ : ∃ j, k = j + 1 := ⟨k - 1, by omega⟩
  have key : arun Tryz.prog cf (k + 1) 28 [mkL 2 (l.map D2.c)] [] = some (accV 0 2 (dRows (pruneT l)), accB 28 2 (dRows (pruneT l))) := by
    rw [arun_body rfl rfl Tryz.func28 rfl (N := 30) rfl]
    have hw := wraps (n := l.length) (by omega)
    simp only [R0, RC, zipEnv, Nat.reduceLT, Nat.reduceAdd, Nat.reduceEqDiff, Nat.reduceLeDiff, reduceCtorEq, ↓reduceIte, ares, aresult, pr, Int.reduceEq, Int.reduceLT, Int.reduceLE, Nat.reduceSub, Nat.reduceMul, aFieldAddr, aField, aLoad, aStore, aExtract, aBox, aint, rdVar, rdCells, Value.oneCell', splice, Int.reduceNeg, zvar1, chunks, depth, some_map, Nat.reduceBEq, cf_dyn, okU, Tryz.f28, rf28]
    generalize hA : aloop _ _ _ _ _ _ _ _ _ _ _ = A
    rcases aloop_list hA [0, 3, 7, 8, 9] (fun j => ⟨[(0, mkL 2 (l.map D2.c)), (3, accV 0 2 (dRows ((l.take j).foldl (pruS l) []))), (7, mkL 2 (l.map D2.c)), (8, .sc (.int .i64 l.length)), (9, .sc (.int .i64 (j : Nat)))], accB 28 2 (dRows ((l.take j).foldl (pruS l) []))⟩) l (fun _ => false) (by omega) rfl (by simp only [R0, RC, zipEnv, Nat.reduceLT, Nat.reduceAdd, Nat.reduceEqDiff, Nat.reduceLeDiff, reduceCtorEq, ↓reduceIte, ares, aresult, pr, Int.reduceEq, Int.reduceLT, Int.reduceLE, Nat.reduceSub, Nat.reduceMul, aFieldAddr, aField, aLoad, aStore, aExtract, aBox, aint, rdVar, rdCells, Value.oneCell', splice, Int.reduceNeg, zvar1, chunks, depth, some_map, Nat.reduceBEq, cf_dyn, okU, Tryz.f28, rf28, List.take_zero, List.foldl_nil, dRows, List.map_nil, accV_nil, accB_nil]; try rfl) (fun j d hj hd hq => by
        have hstep : (l.take (j + 1)).foldl (pruS l) [] = pruS l ((l.take j).foldl (pruS l) []) d := by
          obtain ⟨hj', rfl⟩ := List.getElem?_eq_some_iff.1 hd
          rw [List.take_succ_eq_append_getElem hj', List.foldl_append]
          rfl
        have hlen := pruS_len l (l.take j) []
        rw [List.length_take] at hlen
        simp only [List.length_nil] at hlen
        rw [hstep]
        generalize (l.take j).foldl (pruS l) [] = O at *
        have hcon := contains_run O d (by omega) k (by omega)
        have hoth := othersFn l d hl hs k (by omega)
        have hrb : ∀ k, rb (accB 28 2 (dRows O)) (k + 2) (accV 0 2 (dRows O)) = some (mkL 2 (O.map D2.c)) := fun k => rb_out acc_out0 dRows_row dRows_stay
        have hrb40 := hrb 38
        have happ := acc1_0 (P := Tryz.prog) (rows := dRows O) (r := [.sc (.string d.1), .sc (.string d.2)]) ro62 dRows_row rfl rfl (by unfold dRows; rw [List.length_map]; omega) (by unfold dRows maxLen; rw [List.length_map]; omega)
        have e2 : dRows O ++ [[.sc (.string d.1), .sc (.string d.2)]] = dRows (O ++ [d]) := by unfold dRows; simp [D2.c]
        rw [e2] at happ
        unfold pruS
        cases h1 : O.any (fun x => decide (d = x)) with
        | true =>
          rw [h1] at hcon
          simp only [R0, RC, zipEnv, Nat.reduceLT, Nat.reduceAdd, Nat.reduceEqDiff, Nat.reduceLeDiff, reduceCtorEq, ↓reduceIte, ares, aresult, pr, Int.reduceEq, Int.reduceLT, Int.reduceLE, Nat.reduceSub, Nat.reduceMul, aFieldAddr, aField, aLoad, aStore, aExtract, aBox, aint, rdVar, rdCells, Value.oneCell', splice, Int.reduceNeg, zvar1, chunks, depth, some_map, Nat.reduceBEq, cf_dyn, okU, Tryz.f28, rf28, D2.c, hj, hd, hw j hj, hcon, hrb40]
        | false =>
          rw [h1] at hcon
          cases h2 : l.any (othB d) with
          | true =>
            rw [h2] at hoth
            simp only [R0, RC, zipEnv, Nat.reduceLT, Nat.reduceAdd, Nat.reduceEqDiff, Nat.reduceLeDiff, reduceCtorEq, ↓reduceIte, ares, aresult, pr, Int.reduceEq, Int.reduceLT, Int.reduceLE, Nat.reduceSub, Nat.reduceMul, aFieldAddr, aField, aLoad, aStore, aExtract, aBox, aint, rdVar, rdCells, Value.oneCell', splice, Int.reduceNeg, zvar1, chunks, depth, some_map, Nat.reduceBEq, cf_dyn, okU, Tryz.f28, rf28, D2.c, hj, hd, hw j hj, hcon, hoth, hrb40]
          | false =>
            rw [h2] at hoth
            simp only [R0, RC, zipEnv, Nat.reduceLT, Nat.reduceAdd, Nat.reduceEqDiff, Nat.reduceLeDiff, reduceCtorEq, ↓reduceIte, ares, aresult, pr, Int.reduceEq, Int.reduceLT, Int.reduceLE, Nat.reduceSub, Nat.reduceMul, aFieldAddr, aField, aLoad, aStore, aExtract, aBox, aint, rdVar, rdCells, Value.oneCell', splice, Int.reduceNeg, zvar1, chunks, depth, some_map, Nat.reduceBEq, cf_dyn, okU, Tryz.f28, rf28, D2.c, hj, hd, hw j hj, hcon, hoth, hrb40, happ]) (fun j d hj hd hq => by cases hq) (by simp only [R0, RC, zipEnv, Nat.reduceLT, Nat.reduceAdd, Nat.reduceEqDiff, Nat.reduceLeDiff, reduceCtorEq, ↓reduceIte, ares, aresult, pr, Int.reduceEq, Int.reduceLT, Int.reduceLE, Nat.reduceSub, Nat.reduceMul, aFieldAddr, aField, aLoad, aStore, aExtract, aBox, aint, rdVar, rdCells, Value.oneCell', splice, Int.reduceNeg, zvar1, chunks, depth, some_map, Nat.reduceBEq, cf_dyn, okU, Tryz.f28, rf28]) with ⟨h, e⟩ | ⟨j, d, hj, hd, hq, h, e⟩
    · rw [e, List.take_length]
      simp only [R0, RC, zipEnv, Nat.reduceLT, Nat.reduceAdd, Nat.reduceEqDiff, Nat.reduceLeDiff, reduceCtorEq, ↓reduceIte, ares, aresult, pr, Int.reduceEq, Int.reduceLT, Int.reduceLE, Nat.reduceSub, Nat.reduceMul, aFieldAddr, aField, aLoad, aStore, aExtract, aBox, aint, rdVar, rdCells, Value.oneCell', splice, Int.reduceNeg, zvar1, chunks, depth, some_map, Nat.reduceBEq, cf_dyn, okU, Tryz.f28, rf28]
      rfl
    · cases hq
  exact val_acc key acc_out0 dRows_row fun r hr x hx => by
    obtain ⟨d, _, rfl⟩ := List.mem_map.1 hr
    simp only [D2.c, List.mem_cons, List.not_mem_nil, or_false] at hx
    rcases hx with rfl | rfl <;> exact ⟨stays_str, _, rfl⟩
def holdsT (pred : ByteArray) (args : List TermT) : LitT := ⟨1, ⟨pred, args⟩, .empty, ⟨.empty, 0, 0, .empty⟩, ⟨.empty, 0, 0, .empty⟩, ⟨.empty, 0, 0, .empty⟩, []⟩
end Go.Proofs.YtpgipdajinkdgaaGreatA

namespace Go.Proofs.YtpgipdajinkdgaaGreatA
open Go Go.RowKit
set_option linter.all false
set_option linter.unusedSectionVars false
set_option linter.constructorNameAsVariable false
set_option linter.unusedVariables false
set_option linter.unusedSimpArgs false
theorem rb_aggS {H : List Blk} {cs : List AV} (h : ∀ x ∈ cs, Stays x) : rb H depth (.agg cs) = some (.agg cs) := by
  have e : ∀ k, rb H (k + 1 + 1) (.agg cs) = (amap (rb H (k + 1)) cs).map .agg := fun _ => rfl
  rw [show depth = 38 + 1 + 1 from rfl, e, amap_stays h]
  rfl
theorem lit_stays (l : LitT) : ∀ x ∈ l.c, Stays x := fun x hx => by
  simp only [LitT.c, List.mem_cons, List.not_mem_nil, or_false] at hx
  rcases hx with rfl | rfl | rfl | rfl | rfl | rfl | rfl | rfl | rfl | rfl | rfl | rfl | rfl | rfl | rfl | rfl | rfl
  all_goals first | exact stays_int | exact stays_str | exact stays_mkL
theorem holds_run (pred : ByteArray) (args : List TermT) (k : Nat) (hk : 1 ≤ k) : valD Tryz.prog cf k 60 [.sc (.string pred), mkL 4 (tRows args)] = some (.agg (holdsT pred args).c) := by
  obtain ⟨k, rfl⟩ : ∃ j, k = j + 1 := ⟨k - 1, by omega⟩
  have key : ∃ r H', arun Tryz.prog cf (k + 1) 60 [.sc (.string pred), mkL 4 (tRows args)] [] = some (r, H') ∧ ∀ H, rb H depth r = some (.agg (holdsT pred args).c) := by
    rw [arun_body rfl rfl Tryz.func60 rfl (N := 9) rfl]
    refine ⟨_, _, by
      simp only [R0, RC, zipEnv, Nat.reduceLT, Nat.reduceAdd, Nat.reduceEqDiff, Nat.reduceLeDiff, reduceCtorEq, ↓reduceIte, ares, aresult, pr, Int.reduceEq, Int.reduceLT, Int.reduceLE, Nat.reduceSub, Nat.reduceMul, aFieldAddr, aField, aLoad, aStore, aExtract, aBox, aint, rdVar, rdCells, Value.oneCell', splice, Int.reduceNeg, zvar1, chunks, depth, some_map, Nat.reduceBEq, cf_dyn, okU, Tryz.f60, rf60]
      rfl, fun H => ?_⟩
    have e : ∀ cs, rb H depth (.agg cs) = (amap (rb H 39) cs).map .agg := fun _ => rfl
    have h1 : ∀ n, rb H 39 (.sc (.int .i64 n)) = some (.sc (.int .i64 n)) := fun _ => rfl
    have h2 : ∀ s, rb H 39 (.sc (.string s)) = some (.sc (.string s)) := fun _ => rfl
    have h3 : rb H 39 (mkL 4 (tRows args)) = some (mkL 4 (tRows args)) := rb_mkL (k := 38)
    have h4 : rb H 39 (.sc (.slice none 0 0)) = some (.lst 0 []) := rfl
    rw [e]
    simp only [amap, h1, h2, h3, h4, Option.map_some]
    rfl
  obtain ⟨r, H', e, hr⟩ := key
  exact valD_of e (hr H')
theorem bookUse_run (px : ByteArray) (op : List ByteArray) (used : List D2) (a : AtomT) (bound : List ByteArray) (hu : used.length ≤ 1000) (hs : ∀ x ∈ used, x.2.size ≤ 1000) (ha : a.args.length ≤ 1000) (hb : bound.length ≤ 1000) (k : Nat) (hk : 1020 ≤ k) :
    val Tryz.prog cf k 29 [.agg [.sc (.string px), mkL 1 (sRows op), mkL 2 (dRows used)], .agg a.c, mkL 1 (sRows bound)] = some (.agg (useD used (a.p, patS bound a.args)).1.c) := by
  obtain ⟨k, rfl⟩ : ∃ j, k = j + 1 := ⟨k - 1, by omega⟩
  have hp := pattern_run a bound ha hb k (by omega)
  have hU := use_run used (a.p, patS bound a.args) hu hs k (by omega)
  have m1 : mkL 1 (sRows bound) = mkL 1 (bound.map sC) := rfl
  have m2 : mkL 2 (dRows used) = mkL 2 (used.map D2.c) := rfl
  simp only at hU
  generalize useD used (a.p, patS bound a.args) = u at *
  have key : ∃ H', arun Tryz.prog cf (k + 1) 29 [.agg [.sc (.string px), mkL 1 (sRows op), mkL 2 (dRows used)], .agg a.c, mkL 1 (sRows bound)] [] = some (.agg u.1.c, H') := by
    rw [arun_body rfl rfl Tryz.func29 rfl (N := 22) rfl]
    exact ⟨_, by
      simp only [R0, RC, zipEnv, Nat.reduceLT, Nat.reduceAdd, Nat.reduceEqDiff, Nat.reduceLeDiff, reduceCtorEq, ↓reduceIte, ares, aresult, pr, Int.reduceEq, Int.reduceLT, Int.reduceLE, Nat.reduceSub, Nat.reduceMul, aFieldAddr, aField, aLoad, aStore, aExtract, aBox, aint, rdVar, rdCells, Value.oneCell', splice, Int.reduceNeg, zvar1, chunks, depth, some_map, Nat.reduceBEq, cf_dyn, okU, Tryz.f29, rf29, AtomT.c, D2.c, m1, m2, hp, hU]
      rfl⟩
  obtain ⟨H', e⟩ := key
  exact val_of e rfl rfl
def aSl3 (P : Program) (H : List Blk) (ρ : Operand → AV) (o : Oper) (t : TypeId) (u h m : AV) : Option Res := match u with
  | .lst sz rows => match aint m, bnd (some h) rows.length 0, bnd none 0 0 with
    | some 0, some 0, some 0 => if szl P t then some (.val .z) else none
    | _, _, _ => none
  | .own b o1 len sz ver => match aint m, bnd (some h) len 0, bnd none 0 0 with
    | some 0, some 0, some 0 => if szl P t then some (.val .z) else none
    | _, _, _ => ali3 P H t b o1 len sz ver (aint m) (some h) false
  | _ => aop P H ρ o
theorem aop_slice3 {P : Program} {H : List Blk} {ρ : Operand → AV} {d : Option Tmp} {t ty : TypeId} {pos : String} {af : Array Edge} {g : Option (Nat × Bool)} {x h m : Operand} : aop P H ρ ⟨d, .slice t x none (some h) (some m), ty, pos, af, g⟩ = aSl3 P H ρ ⟨d, .slice t x none (some h) (some m), ty, pos, af, g⟩ t (ρ x) (ρ h) (ρ m) := by
  unfold aSl3
  split
  · rename_i e; simp only [aop, e, Option.map_none, Option.map_some, Option.isSome_some, Bool.true_and]
    rfl
  · rename_i e; simp only [aop, e, Option.map_none, Option.map_some, Option.isSome_some, Option.isSome_none, Bool.true_and]
    rfl
  · rfl
def appBlk (L : List LitT) : Blk := ⟨54, 17, L.length - 1, true, (L.map LitT.c).flatten, .app⟩
def aliBlk (L : List LitT) : Blk := ⟨54, 17, 0, false, (L.map LitT.c).flatten, .ali⟩
theorem lit_row {L : List LitT} : ∀ r ∈ L.map LitT.c, r.length = 17 := fun r hr => by
  obtain ⟨l, _, rfl⟩ := List.mem_map.1 hr
  rfl
theorem lits_len (L : List LitT) : (L.map LitT.c).flatten.length = L.length * 17 := by
  rw [flat_len' lit_row, List.length_map]
theorem sl3_app {H : List Blk} {ρ : Operand → AV} {o : Oper} {L : List LitT} {q q' : IntKind} (h0 : H[0]? = some (appBlk L)) (hL : 0 < L.length) : aSl3 Tryz.prog H ρ o 48 (.own 0 0 L.length 17 (L.length - 1)) (.sc (.int q (L.length : Nat))) (.sc (.int q' (L.length : Nat))) = some (.new (.own H.length 0 L.length 17 0) (aliBlk L)) := by
  have hb : bnd (some (.sc (.int q (L.length : Nat)))) L.length 0 = none := by
    rw [bnd_nat, if_neg (by omega)]
  have ha : appAt H 0 (L.length - 1) = some (appBlk L) := appAt_some' h0 rfl rfl
  have hlen := lits_len L
  simp only [aSl3, hb, ali3, Tryz.underlying48, aint, ha, sz54]
  have hc : L.length * 17 = (appBlk L).cells.length := hlen.symm
  simp only [Bool.not_false, beq_self_eq_true, hc, hL, decide_true, Bool.and_self, if_true]
  split
  · rename_i h1 h2 h3
    cases h2
  · rfl
theorem app_app {H : List Blk} {L : List LitT} {m : LitT} (h0 : H[0]? = some (appBlk L)) (hL : 0 < L.length) (hl : L.length ≤ 100000) : aappend Tryz.prog H 48 (.own 0 0 L.length 17 (L.length - 1)) (mkL 17 [m.c]) = some (.upd (.own 0 0 (L ++ [m]).length 17 ((L ++ [m]).length - 1)) 0 (appBlk (L ++ [m]))) := by
  obtain ⟨i, zv, hu, hi, hz, e1, e2, hpos, hzs, _, _⟩ := rowOk_at (P := Tryz.prog) ro48
  have hcond : (decide (0 < 17) && zv.cells.size == 17) = true := by rw [hzs]; rfl
  have ha : appAt H 0 (L.length - 1) = some (appBlk L) := appAt_some' h0 rfl rfl
  have hn : blkAt H 0 (L.length - 1) = none := blkAt_not h0 (.inl rfl)
  have hlen := lits_len L
  have hone : (m.c : List AV).all one = true := by simp [LitT.c, one_mkL, one_sc, Value.oneCell']
  have hel : elems H (mkL 17 [m.c]) 17 = some (m.c, 1) := by simp [elems, mkL]
  unfold aappend
  simp only [hu, hi, hz, e1, e2, hcond, if_true, hel, hone, hn, ha]
  have e3 : (appBlk L).cells.length = L.length * 17 := hlen
  have e4 : (L ++ [m]).length = L.length + 1 := by simp
  have e5 : L.length - 1 + 1 = L.length := by omega
  have e6 : ((L ++ [m]).map LitT.c).flatten = (L.map LitT.c).flatten ++ m.c := by simp
  rw [if_pos (by
    simp only [Bool.and_eq_true, decide_eq_true_eq, beq_iff_eq, e3, appBlk]
    refine ⟨⟨⟨⟨⟨⟨⟨trivial, trivial⟩, trivial⟩, trivial⟩, trivial⟩, decide_eq_true hlen.symm⟩, ?_⟩, ?_⟩
    · omega
    · unfold maxLen; omega)]
  rw [if_neg (by omega)]
  unfold appBlk
  rw [e4, e5, e6, Nat.add_sub_cancel]
end Go.Proofs.YtpgipdajinkdgaaGreatA

namespace Go.Proofs.YtpgipdajinkdgaaGreatA
open Go Go.RowKit
set_option linter.all false
set_option linter.unusedSectionVars false
set_option linter.constructorNameAsVariable false
set_option linter.unusedVariables false
set_option linter.unusedSimpArgs false
def blkB : AV → Option Nat
  | .own b _ _ _ _ => some b
  | _ => none
theorem appF {t e : TypeId} {sz bytes : Nat} {H : List Blk} {v : AV} {rows : List (List AV)} {r : List AV} (ht : rowOk Tryz.prog t e sz bytes = true) (ho : OutAt e sz H v rows) (hr : ∀ r ∈ rows, r.length = sz) (hl : r.length = sz) (hx : r.all one = true) (hb : (rows.length + 1) * bytes ≤ 140737488355328) (hm : rows.length + 1 ≤ maxLen) :
    ∃ v' H', outH H (aappend Tryz.prog H t v (mkL sz [r])) = some (v', H') ∧ OutAt e sz H' v' (rows ++ [r]) ∧ H.length ≤ H'.length ∧ (∀ c, c < H.length → blkB v ≠ some c → H'[c]? = H[c]?) ∧ (∀ c, blkB v' = some c → blkB v = some c ∨ H.length ≤ c) := by
  rcases ho with ⟨h0, e0⟩ | ⟨hne, c, ver, e0, hc⟩
  · subst h0 e0
    have ha := acc1 (P := Tryz.prog) (H := H) (rows := []) (r := r) ht (fun _ h => by cases h) hl hx (by simpa using hb) (by simpa using hm)
    simp only [accV_nil, accB_nil, List.append_nil, List.nil_append] at ha
    refine ⟨_, _, ha, acc_out, by simp, fun c hc _ => by rw [List.getElem?_append_left hc], fun c e => .inr ?_⟩
    simp only [accV, reduceCtorEq, if_false, List.cons_ne_self, blkB, Option.some.injEq] at e
    omega
  · have hb' := app_o (P := Tryz.prog) (H := H) (b := c) (ver := ver) (rows := rows) (more := [r]) ht hc hr (by simp) (fun q hq => by rw [List.mem_singleton] at hq; subst hq; exact hx) (by simpa using hb) (by simpa using hm)
    have hcl : c < H.length := (List.getElem?_eq_some_iff.1 hc).1
    subst e0
    rw [hb']
    refine ⟨_, _, rfl, .inr ⟨by simp, c, ver + 1, by simp, ?_⟩, by simp, fun d hd hn => ?_, fun d e => ?_⟩
    · rw [List.getElem?_set_self hcl]
      simp
    · rw [List.getElem?_set_ne]
      rintro rfl
      exact hn rfl
    · simp only [blkB] at e
      exact .inl e
theorem app_sameM {P : Program} {H : List Blk} {t : TypeId} {s x y : AV} (h : ∀ z, elems H x z = elems H y z) : aappend P H t s x = aappend P H t s y := by
  unfold aappend
  simp only [h]
def rowA (r : RuleT) (b : Nat) : List AV := [.sc (.string r.head.p), mkL 4 (tRows r.head.args), .sc (.int .i64 0), .own b 0 r.body.length 17 0]
structure RowR (H : List Blk) (v : AV) (row : List AV) (r : RuleT) : Prop where
  fold : r.fold = 0
  ex : ∃ b, row = rowA r b ∧ H[b]? = some (aliBlk r.body) ∧ b ≠ 0 ∧ blkB v ≠ some b ∧ r.body ≠ []
structure OutR (H : List Blk) (v : AV) (rows : List (List AV)) (out : List RuleT) : Prop where
  top : OutAt 50 4 H v rows
  len : rows.length = out.length
  row : ∀ (i : Nat) w r, rows[i]? = some w → out[i]? = some r → RowR H v w r
  pos : blkB v ≠ some 0
theorem OutR.nil {H : List Blk} : OutR H (.sc (.slice none 0 0)) [] [] := ⟨.inl ⟨rfl, rfl⟩, rfl, fun i w r h => by simp at h, by simp [blkB]⟩
theorem blkB_lt {e : TypeId} {sz : Nat} {H : List Blk} {v : AV} {rows : List (List AV)} {c : Nat} (h : OutAt e sz H v rows) (hb : blkB v = some c) : c < H.length := by
  rcases h with ⟨_, rfl⟩ | ⟨_, b, ver, rfl, h2⟩
  · cases hb
  · cases hb
    exact (List.getElem?_eq_some_iff.1 h2).1
theorem OutR.keep {H H' : List Blk} {v : AV} {rows : List (List AV)} {out : List RuleT} (h : OutR H v rows out) (hk : ∀ c, c ≠ 0 → c < H.length → H'[c]? = H[c]?) : OutR H' v rows out := by
  refine ⟨?_, h.len, fun i w r hw hr => ?_, h.pos⟩
  · rcases h.top with ⟨h1, h2⟩ | ⟨h1, b, ver, h2, h3⟩
    · exact .inl ⟨h1, h2⟩
    · refine .inr ⟨h1, b, ver, h2, ?_⟩
      rw [hk b (fun e => h.pos (by rw [h2, e]; rfl)) (List.getElem?_eq_some_iff.1 h3).1]
      exact h3
  · obtain ⟨f, b, h1, h2, h3, h4⟩ := h.row i w r hw hr
    exact ⟨f, b, h1, by rw [hk b h3 (List.getElem?_eq_some_iff.1 h2).1]; exact h2, h3, h4⟩
theorem OutR.rowLen {H : List Blk} {v : AV} {rows : List (List AV)} {out : List RuleT} (h : OutR H v rows out) : ∀ r ∈ rows, r.length = 4 := fun r hr => by
  obtain ⟨i, hi⟩ := List.getElem?_of_mem hr
  have hlt := (List.getElem?_eq_some_iff.1 hi).1
  obtain ⟨_, b, h1, _⟩ := h.row i r (out[i]'(by have := h.len; omega)) hi (List.getElem?_eq_getElem _)
  rw [h1]
  rfl
theorem OutR.push {H : List Blk} {v : AV} {rows : List (List AV)} {out : List RuleT} {r : RuleT} {b bt : Nat} (h : OutR H v rows out) (hf : r.fold = 0) (hne : r.body ≠ []) (hb : H[b]? = some (aliBlk r.body)) (hb0 : b ≠ 0) (hbv : blkB v ≠ some b) (hH : 0 < H.length) (ht : H[bt]? = some ⟨50, 4, 0, true, rowA r b, .cells⟩) (hl : out.length ≤ 100000) :
    ∃ v' H', outH H (aappend Tryz.prog H 38 v (.own bt 0 1 4 0)) = some (v', H') ∧ OutR H' v' (rows ++ [rowA r b]) (out ++ [r]) ∧ H.length ≤ H'.length ∧ (∀ c, c < H.length → blkB v ≠ some c → H'[c]? = H[c]?) := by
  have hel : ∀ z, elems H (.own bt 0 1 4 0) z = elems H (mkL 4 [rowA r b]) z := fun z => by
    simp only [elems, mkL]
    rw [blkAt_some' ht rfl rfl]
    by_cases hz : 4 = z
    · subst hz; rfl
    · simp [hz]
  obtain ⟨v', H', e1, o1, l1, k1, s1⟩ := appF (r := rowA r b) ro38 h.top h.rowLen rfl (by simp [rowA, one_mkL, one_sc, Value.oneCell']; rfl) (by rw [h.len]; omega) (by rw [h.len]; unfold maxLen; omega)
  rw [← app_sameM hel] at e1
  have hbl := (List.getElem?_eq_some_iff.1 hb).1
  refine ⟨v', H', e1, ⟨o1, by simp [h.len], fun i w q hw hq => ?_, fun e => ?_⟩, l1, k1⟩
  · rcases Nat.lt_or_ge i rows.length with hi | hi
    · rw [List.getElem?_append_left hi] at hw
      rw [List.getElem?_append_left (by have := h.len; omega)] at hq
      obtain ⟨f, b', h1, h2, h3, h4, h5⟩ := h.row i w q hw hq
      have hbl' := (List.getElem?_eq_some_iff.1 h2).1
      refine ⟨f, b', h1, by rw [k1 b' hbl' h4]; exact h2, h3, fun e => ?_, h5⟩
      rcases s1 b' e with h6 | h6
      · exact h4 h6
      · omega
    · have hlt := (List.getElem?_eq_some_iff.1 hw).1
      rw [List.length_append, List.length_singleton] at hlt
      obtain rfl : i = rows.length := by omega
      rw [List.getElem?_concat_length] at hw
      rw [h.len, List.getElem?_concat_length] at hq
      obtain rfl := Option.some.inj hw
      obtain rfl := Option.some.inj hq
      refine ⟨hf, b, rfl, by rw [k1 b hbl hbv]; exact hb, hb0, fun e => ?_, hne⟩
      rcases s1 b e with h6 | h6
      · exact hbv h6
      · omega
  · rcases s1 0 e with h6 | h6
    · exact h.pos h6
    · omega
def rulS (px : ByteArray) (op : List ByteArray) (used : List D2) (s : List LitT × List ByteArray × List RuleT) (l : LitT) : List LitT × List ByteArray × List RuleT :=
  if (decide (l.k = 1) && inS op l.a.p) = true then
    (s.1 ++ [holdsT (foundS px (useD used (l.a.p, patS s.2.1 l.a.args)).1) l.a.args], bindsT l s.2.1, s.2.2 ++ [⟨⟨askS px (useD used (l.a.p, patS s.2.1 l.a.args)).1, givenT l.a.args (useD used (l.a.p, patS s.2.1 l.a.args)).1.2⟩, 0, s.1⟩])
  else (s.1 ++ [l], bindsT l s.2.1, s.2.2)
def guardT (px : ByteArray) (x : RuleT) (d : D2) : LitT := holdsT (askS px d) (givenT x.head.args d.2)
def rul0 (px : ByteArray) (x : RuleT) (d : D2) : List LitT × List ByteArray × List RuleT := ([guardT px x d], bindsT (guardT px x d) [], [])
def rulesT (px : ByteArray) (op : List ByteArray) (used : List D2) (x : RuleT) (d : D2) : List RuleT :=
  (x.body.foldl (rulS px op used) (rul0 px x d)).2.2 ++ [⟨⟨foundS px d, x.head.args⟩, 0, (x.body.foldl (rulS px op used) (rul0 px x d)).1⟩]
theorem rulS_len {px : ByteArray} {op : List ByteArray} {used : List D2} {m : Nat} : ∀ (ls : List LitT) (s : List LitT × List ByteArray × List RuleT), (∀ l ∈ ls, l.a.args.length ≤ m) → (ls.foldl (rulS px op used) s).1.length = s.1.length + ls.length ∧ (ls.foldl (rulS px op used) s).2.1.length ≤ s.2.1.length + ls.length * (m + 3) ∧ (ls.foldl (rulS px op used) s).2.2.length ≤ s.2.2.length + ls.length
  | [], s, _ => by simp
  | l :: ls, s, h => by
    obtain ⟨h1, h2, h3⟩ := rulS_len (px := px) (op := op) (used := used) (m := m) ls (rulS px op used s l) fun y hy => h y (by simp [hy])
    have h4 := bindsT_len l s.2.1
    have h5 := h l (by simp)
    have e1 : (rulS px op used s l).1.length = s.1.length + 1 := by unfold rulS; split <;> simp
    have e2 : (rulS px op used s l).2.1 = bindsT l s.2.1 := by unfold rulS; split <;> rfl
    have e3 : (rulS px op used s l).2.2.length ≤ s.2.2.length + 1 := by unfold rulS; split <;> simp
    rw [e2] at h2
    rw [List.foldl_cons, List.length_cons, Nat.add_mul, Nat.one_mul]
    omega
end Go.Proofs.YtpgipdajinkdgaaGreatA
