/- Rows of strings: In, Index, Contains; strings.Builder; Pattern. -/
import Derived.Test.YtpgipdajinkdgaaGreatC
namespace Go.Proofs.YtpgipdajinkdgaaGreatA
open Go Go.RowKit
set_option linter.all false
set_option linter.unusedSectionVars false
set_option linter.constructorNameAsVariable false
set_option linter.unusedVariables false
set_option linter.unusedSimpArgs false
def inS (l : List ByteArray) (s : ByteArray) : Bool := l.any fun x => decide (x = s)
theorem eqc {a b : ByteArray} : decide (a = b) = decide (b = a) := by rw [Bool.eq_iff_iff]; simp [eq_comm]
theorem In_run (l : List ByteArray) (s : ByteArray) (hl : l.length ≤ 1000000) (k : Nat) (hk : l.length + 2 ≤ k) : val Tryz.prog cf k 22 [mkL 1 (l.map sC), .sc (.string s)] = some (.sc (.bool (inS l s))) := by
  obtain ⟨k, rfl⟩ : ∃ j, k = j + 1 := ⟨k - 1, by omega⟩
  refine val_of (r := .sc (.bool (inS l s))) (H1 := []) ?_ rfl rfl
  rw [arun_body rfl rfl Tryz.func22 rfl (N := 18) rfl]
  have hw := wraps (n := l.length) (by omega)
  simp only [R0, RC, zipEnv, Nat.reduceLT, Nat.reduceAdd, Nat.reduceEqDiff, Nat.reduceLeDiff, reduceCtorEq, ↓reduceIte, ares, aresult, pr, Int.reduceEq, Int.reduceLT, Int.reduceLE, Nat.reduceSub, Nat.reduceMul, aFieldAddr, aField, aLoad, aStore, aExtract, aBox, aint, rdVar, rdCells, Value.oneCell', splice, Int.reduceNeg, zvar1, chunks, depth, some_map, Nat.reduceBEq, cf_dyn, okU, Tryz.f22, rf22]
  generalize hA : aloop _ _ _ _ _ _ _ _ _ _ _ = A
  rcases aloop_list hA [0, 1, 7, 8] (fun j => ⟨[(0, mkL 1 (l.map sC)), (1, .sc (.string s)), (7, .sc (.int .i64 l.length)), (8, .sc (.int .i64 (j : Nat)))], []⟩) l (fun x => decide (x = s)) (by omega) rfl rfl (fun j x hj hx hq => by
      simp only [R0, RC, zipEnv, Nat.reduceLT, Nat.reduceAdd, Nat.reduceEqDiff, Nat.reduceLeDiff, reduceCtorEq, ↓reduceIte, ares, aresult, pr, Int.reduceEq, Int.reduceLT, Int.reduceLE, Nat.reduceSub, Nat.reduceMul, aFieldAddr, aField, aLoad, aStore, aExtract, aBox, aint, rdVar, rdCells, Value.oneCell', splice, Int.reduceNeg, zvar1, chunks, depth, some_map, Nat.reduceBEq, cf_dyn, okU, Tryz.f22, rf22, sC, hj, hx, hw j hj, hq]) (fun j x hj hx hq => by
      simp only [R0, RC, zipEnv, Nat.reduceLT, Nat.reduceAdd, Nat.reduceEqDiff, Nat.reduceLeDiff, reduceCtorEq, ↓reduceIte, ares, aresult, pr, Int.reduceEq, Int.reduceLT, Int.reduceLE, Nat.reduceSub, Nat.reduceMul, aFieldAddr, aField, aLoad, aStore, aExtract, aBox, aint, rdVar, rdCells, Value.oneCell', splice, Int.reduceNeg, zvar1, chunks, depth, some_map, Nat.reduceBEq, cf_dyn, okU, Tryz.f22, rf22, sC, hj, hx, hw j hj, hq]) (by simp only [R0, RC, zipEnv, Nat.reduceLT, Nat.reduceAdd, Nat.reduceEqDiff, Nat.reduceLeDiff, reduceCtorEq, ↓reduceIte, ares, aresult, pr, Int.reduceEq, Int.reduceLT, Int.reduceLE, Nat.reduceSub, Nat.reduceMul, aFieldAddr, aField, aLoad, aStore, aExtract, aBox, aint, rdVar, rdCells, Value.oneCell', splice, Int.reduceNeg, zvar1, chunks, depth, some_map, Nat.reduceBEq, cf_dyn, okU, Tryz.f22, rf22]) with ⟨h, e⟩ | ⟨j, x, hj, hx, hq, h, e⟩
  · rw [e, show inS l s = false from find_any h]
    simp only [R0, RC, zipEnv, Nat.reduceLT, Nat.reduceAdd, Nat.reduceEqDiff, Nat.reduceLeDiff, reduceCtorEq, ↓reduceIte, ares, aresult, pr, Int.reduceEq, Int.reduceLT, Int.reduceLE, Nat.reduceSub, Nat.reduceMul, aFieldAddr, aField, aLoad, aStore, aExtract, aBox, aint, rdVar, rdCells, Value.oneCell', splice, Int.reduceNeg, zvar1, chunks, depth, some_map, Nat.reduceBEq, cf_dyn, okU, Tryz.f22, rf22]
  · rw [e, show inS l s = true from find_any' h]
    simp only [R0, RC, zipEnv, Nat.reduceLT, Nat.reduceAdd, Nat.reduceEqDiff, Nat.reduceLeDiff, reduceCtorEq, ↓reduceIte, ares, aresult, pr, Int.reduceEq, Int.reduceLT, Int.reduceLE, Nat.reduceSub, Nat.reduceMul, aFieldAddr, aField, aLoad, aStore, aExtract, aBox, aint, rdVar, rdCells, Value.oneCell', splice, Int.reduceNeg, zvar1, chunks, depth, some_map, Nat.reduceBEq, cf_dyn, okU, Tryz.f22, rf22, sC, hj, hx, hw j hj, hq]
theorem indexS_run (l : List ByteArray) (s : ByteArray) (hl : l.length ≤ 1000000) (k : Nat) (hk : l.length + 2 ≤ k) : val Tryz.prog cf k 89 [mkL 1 (l.map sC), .sc (.string s)] = some (.sc (.int .i64 (idxOf l fun x => decide (s = x)))) := by
  obtain ⟨k, rfl⟩ : ∃ j, k = j + 1 := ⟨k - 1, by omega⟩
  refine val_of (r := .sc (.int .i64 (idxOf l fun x => decide (s = x)))) (H1 := []) ?_ rfl rfl
  rw [arun_body rfl rfl Tryz.func89 rfl (N := 19) rfl]
  have hw := wraps (n := l.length) (by omega)
  simp only [R0, RC, zipEnv, Nat.reduceLT, Nat.reduceAdd, Nat.reduceEqDiff, Nat.reduceLeDiff, reduceCtorEq, ↓reduceIte, ares, aresult, pr, Int.reduceEq, Int.reduceLT, Int.reduceLE, Nat.reduceSub, Nat.reduceMul, aFieldAddr, aField, aLoad, aStore, aExtract, aBox, aint, rdVar, rdCells, Value.oneCell', splice, Int.reduceNeg, zvar1, chunks, depth, some_map, Nat.reduceBEq, cf_dyn, okU, Tryz.f89, rf89]
  generalize hA : aloop _ _ _ _ _ _ _ _ _ _ _ = A
  rcases aloop_list hA [0, 1, 7, 8] (fun j => ⟨[(0, mkL 1 (l.map sC)), (1, .sc (.string s)), (7, .sc (.int .i64 l.length)), (8, .sc (.int .i64 (j : Nat)))], []⟩) l (fun x => decide (s = x)) (by omega) rfl rfl (fun j x hj hx hq => by
      simp only [R0, RC, zipEnv, Nat.reduceLT, Nat.reduceAdd, Nat.reduceEqDiff, Nat.reduceLeDiff, reduceCtorEq, ↓reduceIte, ares, aresult, pr, Int.reduceEq, Int.reduceLT, Int.reduceLE, Nat.reduceSub, Nat.reduceMul, aFieldAddr, aField, aLoad, aStore, aExtract, aBox, aint, rdVar, rdCells, Value.oneCell', splice, Int.reduceNeg, zvar1, chunks, depth, some_map, Nat.reduceBEq, cf_dyn, okU, Tryz.f89, rf89, sC, hj, hx, hw j hj, hq]) (fun j x hj hx hq => by
      simp only [R0, RC, zipEnv, Nat.reduceLT, Nat.reduceAdd, Nat.reduceEqDiff, Nat.reduceLeDiff, reduceCtorEq, ↓reduceIte, ares, aresult, pr, Int.reduceEq, Int.reduceLT, Int.reduceLE, Nat.reduceSub, Nat.reduceMul, aFieldAddr, aField, aLoad, aStore, aExtract, aBox, aint, rdVar, rdCells, Value.oneCell', splice, Int.reduceNeg, zvar1, chunks, depth, some_map, Nat.reduceBEq, cf_dyn, okU, Tryz.f89, rf89, sC, hj, hx, hw j hj, hq]) (by simp only [R0, RC, zipEnv, Nat.reduceLT, Nat.reduceAdd, Nat.reduceEqDiff, Nat.reduceLeDiff, reduceCtorEq, ↓reduceIte, ares, aresult, pr, Int.reduceEq, Int.reduceLT, Int.reduceLE, Nat.reduceSub, Nat.reduceMul, aFieldAddr, aField, aLoad, aStore, aExtract, aBox, aint, rdVar, rdCells, Value.oneCell', splice, Int.reduceNeg, zvar1, chunks, depth, some_map, Nat.reduceBEq, cf_dyn, okU, Tryz.f89, rf89]) with ⟨h, e⟩ | ⟨j, x, hj, hx, hq, h, e⟩
  · rw [e, idxOf_none h]
    simp only [R0, RC, zipEnv, Nat.reduceLT, Nat.reduceAdd, Nat.reduceEqDiff, Nat.reduceLeDiff, reduceCtorEq, ↓reduceIte, ares, aresult, pr, Int.reduceEq, Int.reduceLT, Int.reduceLE, Nat.reduceSub, Nat.reduceMul, aFieldAddr, aField, aLoad, aStore, aExtract, aBox, aint, rdVar, rdCells, Value.oneCell', splice, Int.reduceNeg, zvar1, chunks, depth, some_map, Nat.reduceBEq, cf_dyn, okU, Tryz.f89, rf89]
  · rw [e, idxOf_some h]
    simp only [R0, RC, zipEnv, Nat.reduceLT, Nat.reduceAdd, Nat.reduceEqDiff, Nat.reduceLeDiff, reduceCtorEq, ↓reduceIte, ares, aresult, pr, Int.reduceEq, Int.reduceLT, Int.reduceLE, Nat.reduceSub, Nat.reduceMul, aFieldAddr, aField, aLoad, aStore, aExtract, aBox, aint, rdVar, rdCells, Value.oneCell', splice, Int.reduceNeg, zvar1, chunks, depth, some_map, Nat.reduceBEq, cf_dyn, okU, Tryz.f89, rf89, sC, hj, hx, hw j hj, hq]
theorem containsS_run (l : List ByteArray) (s : ByteArray) (hl : l.length ≤ 1000000) (k : Nat) (hk : l.length + 3 ≤ k) : val Tryz.prog cf k 51 [mkL 1 (l.map sC), .sc (.string s)] = some (.sc (.bool (inS l s))) := by
  obtain ⟨k, rfl⟩ : ∃ j, k = j + 1 := ⟨k - 1, by omega⟩
  refine val_of (r := .sc (.bool (inS l s))) (H1 := []) ?_ rfl rfl
  rw [arun_body rfl rfl Tryz.func51 rfl (N := 9) rfl]
  have h : (l.any fun x => decide (s = x)) = inS l s := by unfold inS; congr 1; funext x; exact eqc
  simp only [R0, RC, zipEnv, Nat.reduceLT, Nat.reduceAdd, Nat.reduceEqDiff, Nat.reduceLeDiff, reduceCtorEq, ↓reduceIte, ares, aresult, pr, Int.reduceEq, Int.reduceLT, Int.reduceLE, Nat.reduceSub, Nat.reduceMul, aFieldAddr, aField, aLoad, aStore, aExtract, aBox, aint, rdVar, rdCells, Value.oneCell', splice, Int.reduceNeg, zvar1, chunks, depth, some_map, Nat.reduceBEq, cf_dyn, okU, Tryz.f51, rf51, indexS_run l s hl k (by omega), idx_any, h]
def bldH (s : ByteArray) : List Blk := if s.size = 0 then [⟨132, 2, 0, false, [.sc (.pointer none), .sc (.slice none 0 0)], .cells⟩] else
  [⟨132, 2, 0, false, [.ptr 0 0 0, .own 1 0 s.size 1 (s.size - 1)], .cells⟩, ⟨5, 1, s.size - 1, true, s.data.toList.map fun c => .sc (.int .u8 c.toNat), .cells⟩]
end Go.Proofs.YtpgipdajinkdgaaGreatA

namespace Go.Proofs.YtpgipdajinkdgaaGreatA
open Go Go.RowKit
set_option linter.all false
set_option linter.unusedSectionVars false
set_option linter.constructorNameAsVariable false
set_option linter.unusedVariables false
set_option linter.unusedSimpArgs false
theorem noEsc (k : Nat) (strict : Bool) (H : List Blk) (b off ver : Nat) : callR Tryz.prog (acall cf.mode strict (arun Tryz.prog cf k)) H (.fn 138 []) [.ptr b off ver] = some (.ptr b off ver, H) := by
  have h1 : acall cf.mode strict (arun Tryz.prog cf k) 138 [.ptr b off ver] H = none := by
    rw [acall_0 rfl]
    exact arun_nobody rfl Tryz.func138 rfl k
  have h2 : aext Tryz.prog 138 [.ptr b off ver] = some (.ptr b off ver) := by kernel_rfl
  simp only [callR, List.append_nil, h1, h2, Option.map_some]
theorem u8info : (Tryz.prog.info? 5).map (fun i => (i.zero, i.size, i.bytes)) = some (some (.int .u8 0), 1, 1) := by kernel_rfl
theorem lies81 : (!false && (Tryz.prog.info? 132).isSome && liesAt Tryz.prog Tryz.prog.depth 132 (2 / Tryz.prog.cellsOf 132) 0 132 1) = true := by kernel_rfl
abbrev bB (x y : AV) : Blk := ⟨132, 2, 0, false, [x, y], .cells⟩
theorem blk_hd {b : Blk} {r : List Blk} (h : b.kind = .cells) (hv : b.ver = 0) : blkAt (b :: r) 0 0 = some b := by
  rw [blkAt_eq]
  simp [h, hv]
theorem copy0_run (y : AV) (r : List Blk) (k : Nat) (hk : 2 ≤ k) : arun Tryz.prog cf k 115 [.ptr 0 0 0] (bB (.sc (.pointer none)) y :: r) = some (.tup [], bB (.ptr 0 0 0) y :: r) := by
  obtain ⟨k, rfl⟩ : ∃ j, k = j + 1 := ⟨k - 1, by omega⟩
  have hb : ∀ x, blkAt (bB x y :: r) 0 0 = some (bB x y) := fun x => blk_hd rfl rfl
  rw [arun_body rfl rfl Tryz.func115 rfl (N := 20) rfl]
  have q1 : ∀ (ρ : Operand → AV) (o : Oper), aConv Tryz.prog (bB (.sc (.pointer none)) y :: r) ρ o 129 173 (.ptr 0 0 0) = some (.val (.ptr 0 0 0)) := fun ρ o => aConv_out Tryz.underlying129 Tryz.underlying173 sz132 (hb _) (by simp)
  have q2 : ∀ (ρ : Operand → AV) (o : Oper), aConv Tryz.prog (bB (.sc (.pointer none)) y :: r) ρ o 173 129 (.ptr 0 0 0) = some (.val (.ptr 0 0 0)) := fun ρ o => aConv_in Tryz.underlying173 Tryz.underlying129 (hb _) lies81
  simp only [R0, RC, zipEnv, Nat.reduceLT, Nat.reduceAdd, Nat.reduceEqDiff, Nat.reduceLeDiff, reduceCtorEq, ↓reduceIte, ares, aresult, pr, Int.reduceEq, Int.reduceLT, Int.reduceLE, Nat.reduceSub, Nat.reduceMul, aFieldAddr, aField, aLoad, aStore, aExtract, aBox, aint, rdVar, rdCells, Value.oneCell', splice, Int.reduceNeg, zvar1, chunks, depth, some_map, Nat.reduceBEq, cf_dyn, okU, Tryz.f115, rf115, aBin_nil_nil Tryz.underlying129, noEsc, q1, q2]
theorem copy1_run (y : AV) (r : List Blk) (k : Nat) (hk : 2 ≤ k) : arun Tryz.prog cf k 115 [.ptr 0 0 0] (bB (.ptr 0 0 0) y :: r) = some (.tup [], bB (.ptr 0 0 0) y :: r) := by
  obtain ⟨k, rfl⟩ : ∃ j, k = j + 1 := ⟨k - 1, by omega⟩
  have hb : ∀ x, blkAt (bB x y :: r) 0 0 = some (bB x y) := fun x => blk_hd rfl rfl
  have q3 : ∀ (p q : Operand), aBin Tryz.prog (bB (.ptr 0 0 0) y :: r) .neq 129 p q (.ptr 0 0 0) (.ptr 0 0 0) = some (.val (.sc (.bool false))) := fun p q => aBin_ptr_same Tryz.underlying129 sz132 (hb _)
  rw [arun_body rfl rfl Tryz.func115 rfl (N := 20) rfl]
  simp only [R0, RC, zipEnv, Nat.reduceLT, Nat.reduceAdd, Nat.reduceEqDiff, Nat.reduceLeDiff, reduceCtorEq, ↓reduceIte, ares, aresult, pr, Int.reduceEq, Int.reduceLT, Int.reduceLE, Nat.reduceSub, Nat.reduceMul, aFieldAddr, aField, aLoad, aStore, aExtract, aBox, aint, rdVar, rdCells, Value.oneCell', splice, Int.reduceNeg, zvar1, chunks, depth, some_map, Nat.reduceBEq, cf_dyn, okU, Tryz.f115, rf115, aBin_ptr_nil Tryz.underlying129, q3]
theorem bld_empty {s : ByteArray} (h : s.size = 0) : bldH s = [bB (.sc (.pointer none)) (.sc (.slice none 0 0))] := by unfold bldH; rw [if_pos h]
theorem bld_more {s : ByteArray} (h : ¬ s.size = 0) : bldH s = [bB (.ptr 0 0 0) (.own 1 0 s.size 1 (s.size - 1)), ⟨5, 1, s.size - 1, true, bytesC s, .cells⟩] := by unfold bldH; rw [if_neg h]; rfl
theorem write_run (s c : ByteArray) (hc : c.size = 1) (hs : s.size ≤ 1000000) (k : Nat) (hk : 3 ≤ k) : arun Tryz.prog cf k 90 [.ptr 0 0 0, .sc (.string c)] (bldH s) = some (.tup [.sc (.int .i64 1), .sc .nilIface], bldH (s ++ c)) := by
  obtain ⟨k, rfl⟩ : ∃ j, k = j + 1 := ⟨k - 1, by omega⟩
  obtain ⟨i, hi, h1⟩ := Option.map_eq_some_iff.1 u8info
  simp only [Prod.mk.injEq] at h1
  obtain ⟨h1, h2, h3⟩ := h1
  have hsc : (s ++ c).size = s.size + 1 := by simp [hc]
  rw [bld_more (s := s ++ c) (by omega)]
  rw [arun_body rfl rfl Tryz.func90 rfl (N := 19) rfl]
  by_cases h : s.size = 0
  · rw [bld_empty h]
    have h0 : s ++ c = c := by
      have : s = .empty := by apply ByteArray.ext; apply Array.eq_empty_of_size_eq_zero; exact h
      rw [this]; simp
    have q := fun H => app_nil (H := H) (c := c) Tryz.underlying130 Tryz.underlying9 hi h1 h2 h3 (by omega) (by omega)
    rw [hc] at q
    simp only [R0, RC, zipEnv, Nat.reduceLT, Nat.reduceAdd, Nat.reduceEqDiff, Nat.reduceLeDiff, reduceCtorEq, ↓reduceIte, ares, aresult, pr, Int.reduceEq, Int.reduceLT, Int.reduceLE, Nat.reduceSub, Nat.reduceMul, aFieldAddr, aField, aLoad, aStore, aExtract, aBox, aint, rdVar, rdCells, Value.oneCell', splice, Int.reduceNeg, zvar1, chunks, depth, some_map, Nat.reduceBEq, cf_dyn, okU, Tryz.f90, rf90, copy0_run _ _ k (by omega), aNilC_ptr, q, h0, hc]
    rfl
  · rw [bld_more h]
    have q := app_own (P := Tryz.prog) (t := 130) (u := 9) (e := 5) (c := c) (s := s) (b := 1) (ver := s.size - 1) (H := [bB (.ptr 0 0 0) (.own 1 0 s.size 1 (s.size - 1)), ⟨5, 1, s.size - 1, true, bytesC s, .cells⟩]) Tryz.underlying130 Tryz.underlying9 hi h1 h2 h3 rfl (by omega) (by omega)
    rw [hc, show s.size - 1 + 1 = s.size by omega] at q
    simp only [R0, RC, zipEnv, Nat.reduceLT, Nat.reduceAdd, Nat.reduceEqDiff, Nat.reduceLeDiff, reduceCtorEq, ↓reduceIte, ares, aresult, pr, Int.reduceEq, Int.reduceLT, Int.reduceLE, Nat.reduceSub, Nat.reduceMul, aFieldAddr, aField, aLoad, aStore, aExtract, aBox, aint, rdVar, rdCells, Value.oneCell', splice, Int.reduceNeg, zvar1, chunks, depth, some_map, Nat.reduceBEq, cf_dyn, okU, Tryz.f90, rf90, copy1_run _ _ k (by omega), aNilC_ptr, q, hc, hsc, show s.size + 1 - 1 = s.size by omega]
    rfl
end Go.Proofs.YtpgipdajinkdgaaGreatA

namespace Go.Proofs.YtpgipdajinkdgaaGreatA
open Go Go.RowKit
set_option linter.all false
set_option linter.unusedSectionVars false
set_option linter.constructorNameAsVariable false
set_option linter.unusedVariables false
set_option linter.unusedSimpArgs false
section
variable {H : List Blk} {ρ : Operand → AV} {d : Option Tmp} {ty : TypeId} {pos : String} {af : Array Edge} {g : Option (Nat × Bool)}
def aUSD (H : List Blk) (x : AV) (z : Option Res) : Option Res := match x with
  | .own b o len sz ver => if 0 < len then match blkAt H b ver with
    | some _ => some (.val (.ptr b (o * sz) ver))
    | none => none
    else none
  | _ => z
theorem aop_usd {P : Program} {x : Operand} {t : TypeId} : aop P H ρ ⟨d, .call ⟨.builtin .unsafeSliceData, #[x], #[t]⟩, ty, pos, af, g⟩ = aUSD H (ρ x) ((sop P ρ ⟨d, .call ⟨.builtin .unsafeSliceData, #[x], #[t]⟩, ty, pos, af, g⟩).map .val) := rfl
theorem aUSD_own {b len ver : Nat} {z : Option Res} {blk : Blk} (hl : 0 < len) (hb : blkAt H b ver = some blk) : aUSD H (.own b 0 len 1 ver) z = some (.val (.ptr b 0 ver)) := by
  simp only [aUSD, hl, if_true, hb, Nat.zero_mul]
theorem aUSD_sc {v : Value} {z : Option Res} : aUSD H (.sc v) z = z := rfl
def aUS (P : Program) (H : List Blk) (pt : TypeId) (p n : AV) (z : Option Res) : Option Res := match p, n with
  | .ptr b off ver, .sc (.int .i64 k) => if 0 < k && off == 0 && decide (k.toNat ≤ maxLen) then match blkAt H b ver, P.underlying pt with
    | some blk, some (.pointer e) => if P.cellsOf e == 1 && blk.elem == e && decide (k.toNat ≤ blk.cells.length) then match bytesOf (blk.cells.take k.toNat) with
      | some l => some (.upd (.sc (.string ⟨l.toArray⟩)) b { blk with kind := .dead })
      | none => none
      else none
    | _, _ => none
    else none
  | _, _ => z
theorem aop_us {P : Program} {x y : Operand} {t u : TypeId} : aop P H ρ ⟨d, .call ⟨.builtin .unsafeString, #[x, y], #[t, u]⟩, ty, pos, af, g⟩ = aUS P H t (ρ x) (ρ y) ((sop P ρ ⟨d, .call ⟨.builtin .unsafeString, #[x, y], #[t, u]⟩, ty, pos, af, g⟩).map .val) := rfl
theorem aUS_sc {P : Program} {t : TypeId} {v : Value} {n : AV} {z : Option Res} : aUS P H t (.sc v) n z = z := rfl
theorem sop_usd {x : Operand} (h : ρ x = .sc (.slice none 0 0)) : sop Tryz.prog ρ ⟨d, .call ⟨.builtin .unsafeSliceData, #[x], #[130]⟩, ty, pos, af, g⟩ = some (.sc (.pointer none)) := by
  have hu : Tryz.prog.underlying 130 = some (.slice 5) := Tryz.underlying130
  rw [sop_v (s := Builtin.unsafeSliceData_ #[130] ty #[.slice none 0 0]) (by simp [Op.operands, Call.operands, h, toV]) rfl (by simp [execOp, resolve, invoke, builtin, h, toV])]
  rfl
theorem sop_us {x y : Operand} (h : ρ x = .sc (.pointer none)) (h' : ρ y = .sc (.int .i64 0)) : sop Tryz.prog ρ ⟨d, .call ⟨.builtin .unsafeString, #[x, y], #[153, 3]⟩, ty, pos, af, g⟩ = some (.sc (.string .empty)) := by
  have hu : Tryz.prog.underlying 153 = some (.pointer 5) := Tryz.underlying153
  rw [sop_v (s := Builtin.unsafeString_ #[153, 3] ty #[.pointer none, .int .i64 0]) (by simp [Op.operands, Call.operands, h, h', toV]) rfl (by simp [execOp, resolve, invoke, builtin, h, h', toV])]
  rfl
end
theorem pend_run (s : ByteArray) (hs : s.size ≤ 1000000) (k : Nat) (hk : 1 ≤ k) : ∃ H1, arun Tryz.prog cf k 91 [.ptr 0 0 0] (bldH s) = some (.sc (.string s), H1) := by
  obtain ⟨k, rfl⟩ : ∃ j, k = j + 1 := ⟨k - 1, by omega⟩
  rw [arun_body rfl rfl Tryz.func91 rfl (N := 14) rfl]
  by_cases h : s.size = 0
  · rw [bld_empty h]
    have h0 : s = .empty := by apply ByteArray.ext; apply Array.eq_empty_of_size_eq_zero; exact h
    exact ⟨_, by simp only [R0, RC, zipEnv, Nat.reduceLT, Nat.reduceAdd, Nat.reduceEqDiff, Nat.reduceLeDiff, reduceCtorEq, ↓reduceIte, ares, aresult, pr, Int.reduceEq, Int.reduceLT, Int.reduceLE, Nat.reduceSub, Nat.reduceMul, aFieldAddr, aField, aLoad, aStore, aExtract, aBox, aint, rdVar, rdCells, Value.oneCell', splice, Int.reduceNeg, zvar1, chunks, depth, some_map, Nat.reduceBEq, cf_dyn, okU, Tryz.f91, rf91, aop_usd, aUSD_sc, sop_usd, aop_us, aUS_sc, sop_us, aLen_nil Tryz.underlying130, h0]; rfl⟩
  · rw [bld_more h]
    have hb : blkAt [bB (.ptr 0 0 0) (.own 1 0 s.size 1 (s.size - 1)), ⟨5, 1, s.size - 1, true, bytesC s, .cells⟩] 1 (s.size - 1) = some ⟨5, 1, s.size - 1, true, bytesC s, .cells⟩ := blkAt_some' rfl rfl rfl
    have q1 : ∀ z : Option Res, aUSD [bB (.ptr 0 0 0) (.own 1 0 s.size 1 (s.size - 1)), ⟨5, 1, s.size - 1, true, bytesC s, .cells⟩] (.own 1 0 s.size 1 (s.size - 1)) z = some (.val (.ptr 1 0 (s.size - 1))) := fun z => aUSD_own (by omega) hb
    have q2 : ∀ z : Option Res, aUS Tryz.prog [bB (.ptr 0 0 0) (.own 1 0 s.size 1 (s.size - 1)), ⟨5, 1, s.size - 1, true, bytesC s, .cells⟩] 153 (.ptr 1 0 (s.size - 1)) (.sc (.int .i64 s.size)) z = some (.upd (.sc (.string s)) 1 ⟨5, 1, s.size - 1, true, bytesC s, .dead⟩) := fun z => by
      have hc : Tryz.prog.cellsOf 5 = 1 := by kernel_rfl
      have ht : (bytesC s).take s.size = bytesC s := by rw [← bytesC_len (s := s), List.take_length]
      simp only [aUS, hb, Tryz.underlying153, hc, Int.toNat_natCast, ht, bytesC_len]
      rw [if_pos (by have : s.size ≤ maxLen := by unfold maxLen; omega
                     simp [this]; omega), if_pos (by simp)]
      rw [show bytesOf (bytesC s) = some s.data.toList from bytes_of_bytesC _]
    have q3 : ∀ H : List Blk, aLen Tryz.prog H 130 (.own 1 0 s.size 1 (s.size - 1)) = some (.val (.sc (.int .i64 s.size))) := fun H => aLen_slice Tryz.underlying130 rfl
    exact ⟨_, by simp only [R0, RC, zipEnv, Nat.reduceLT, Nat.reduceAdd, Nat.reduceEqDiff, Nat.reduceLeDiff, reduceCtorEq, ↓reduceIte, ares, aresult, pr, Int.reduceEq, Int.reduceLT, Int.reduceLE, Nat.reduceSub, Nat.reduceMul, aFieldAddr, aField, aLoad, aStore, aExtract, aBox, aint, rdVar, rdCells, Value.oneCell', splice, Int.reduceNeg, zvar1, chunks, depth, some_map, Nat.reduceBEq, cf_dyn, okU, Tryz.f91, rf91, aop_usd, q1, aop_us, q2, q3]; rfl⟩
def givenB (bound : List ByteArray) (t : TermT) : Bool := decide (t.v = .empty) || inS bound t.v
def patB (bound : List ByteArray) (t : TermT) : UInt8 := if givenB bound t then 98 else 102
def patS (bound : List ByteArray) (l : List TermT) : ByteArray := ⟨(l.map (patB bound)).toArray⟩
theorem patS_size {bound : List ByteArray} {l : List TermT} : (patS bound l).size = l.length := by simp [patS, ByteArray.size]
theorem patS_succ {bound : List ByteArray} {l : List TermT} {t : TermT} : patS bound (l ++ [t]) = patS bound l ++ ⟨#[patB bound t]⟩ := by
  apply ByteArray.ext
  simp [patS]
theorem pattern_run (a : AtomT) (bound : List ByteArray) (ha : a.args.length ≤ 1000) (hb : bound.length ≤ 1000) (k : Nat) (hk : 1010 ≤ k) : val Tryz.prog cf k 52 [.agg [.sc (.string a.p), mkL 4 (a.args.map TermT.c)], mkL 1 (bound.map sC)] = some (.sc (.string (patS bound a.args))) := by
  obtain ⟨k, rfl⟩ : ∃ j, k = j + 1 := ⟨k - 1, by omega⟩
  have key : ∃ H1, arun Tryz.prog cf (k + 1) 52 [.agg [.sc (.string a.p), mkL 4 (a.args.map TermT.c)], mkL 1 (bound.map sC)] [] = some (.sc (.string (patS bound a.args)), H1) := by
    rw [arun_body rfl rfl Tryz.func52 rfl (N := 28) rfl]
    have hw := wraps (n := a.args.length) (by omega)
    have hE : [bB (.sc (.pointer none)) (.sc (.slice none 0 0))] = bldH (patS bound []) := rfl
    simp only [R0, RC, zipEnv, Nat.reduceLT, Nat.reduceAdd, Nat.reduceEqDiff, Nat.reduceLeDiff, reduceCtorEq, ↓reduceIte, ares, aresult, pr, Int.reduceEq, Int.reduceLT, Int.reduceLE, Nat.reduceSub, Nat.reduceMul, aFieldAddr, aField, aLoad, aStore, aExtract, aBox, aint, rdVar, rdCells, Value.oneCell', splice, Int.reduceNeg, zvar1, chunks, depth, some_map, Nat.reduceBEq, cf_dyn, okU, Tryz.f52, rf52]
    rw [hE]
    rw [aloop_eq [1, 5, 9, 10, 11] (fun j => ⟨[(1, mkL 1 (bound.map sC)), (5, .ptr 0 0 0), (9, mkL 4 (a.args.map TermT.c)), (10, .sc (.int .i64 a.args.length)), (11, .sc (.int .i64 (j : Nat)))], bldH (patS bound (a.args.take j))⟩) a.args.length (by omega) rfl rfl ?hs ?he]
    case hs =>
      intro j hj
      obtain ⟨t, ht⟩ : ∃ t, a.args[j]? = some t := ⟨_, List.getElem?_eq_getElem hj⟩
      have hn : a.args.take (j + 1) = a.args.take j ++ [t] := by rw [List.take_add_one, ht]; rfl
      have hsz : (patS bound (a.args.take j)).size ≤ 1000000 := by rw [patS_size, List.length_take]; omega
      have c1 := write_run (patS bound (a.args.take j)) ⟨#[98]⟩ rfl hsz k (by omega)
      have c2 := write_run (patS bound (a.args.take j)) ⟨#[102]⟩ rfl hsz k (by omega)
      have c3 := containsS_run bound t.v (by omega) k (by omega)
      rw [hn, patS_succ]
      by_cases h1 : t.v = .empty
      · have hp : patB bound t = 98 := by simp [patB, givenB, h1]
        rw [hp]
        simp only [R0, RC, zipEnv, Nat.reduceLT, Nat.reduceAdd, Nat.reduceEqDiff, Nat.reduceLeDiff, reduceCtorEq, ↓reduceIte, ares, aresult, pr, Int.reduceEq, Int.reduceLT, Int.reduceLE, Nat.reduceSub, Nat.reduceMul, aFieldAddr, aField, aLoad, aStore, aExtract, aBox, aint, rdVar, rdCells, Value.oneCell', splice, Int.reduceNeg, zvar1, chunks, depth, some_map, Nat.reduceBEq, cf_dyn, okU, Tryz.f52, rf52, TermT.c, hj, ht, hw j hj, h1, c1]
      · cases h2 : inS bound t.v with
        | true =>
          have hp : patB bound t = 98 := by simp [patB, givenB, h2]
          rw [h2] at c3
          rw [hp]
          simp only [R0, RC, zipEnv, Nat.reduceLT, Nat.reduceAdd, Nat.reduceEqDiff, Nat.reduceLeDiff, reduceCtorEq, ↓reduceIte, ares, aresult, pr, Int.reduceEq, Int.reduceLT, Int.reduceLE, Nat.reduceSub, Nat.reduceMul, aFieldAddr, aField, aLoad, aStore, aExtract, aBox, aint, rdVar, rdCells, Value.oneCell', splice, Int.reduceNeg, zvar1, chunks, depth, some_map, Nat.reduceBEq, cf_dyn, okU, Tryz.f52, rf52, TermT.c, hj, ht, hw j hj, h1, c1, c3]
        | false =>
          have hp : patB bound t = 102 := by simp [patB, givenB, h1, h2]
          rw [h2] at c3
          rw [hp]
          simp only [R0, RC, zipEnv, Nat.reduceLT, Nat.reduceAdd, Nat.reduceEqDiff, Nat.reduceLeDiff, reduceCtorEq, ↓reduceIte, ares, aresult, pr, Int.reduceEq, Int.reduceLT, Int.reduceLE, Nat.reduceSub, Nat.reduceMul, aFieldAddr, aField, aLoad, aStore, aExtract, aBox, aint, rdVar, rdCells, Value.oneCell', splice, Int.reduceNeg, zvar1, chunks, depth, some_map, Nat.reduceBEq, cf_dyn, okU, Tryz.f52, rf52, TermT.c, hj, ht, hw j hj, h1, c2, c3]
    case he => simp only [R0, RC, zipEnv, Nat.reduceLT, Nat.reduceAdd, Nat.reduceEqDiff, Nat.reduceLeDiff, reduceCtorEq, ↓reduceIte, ares, aresult, pr, Int.reduceEq, Int.reduceLT, Int.reduceLE, Nat.reduceSub, Nat.reduceMul, aFieldAddr, aField, aLoad, aStore, aExtract, aBox, aint, rdVar, rdCells, Value.oneCell', splice, Int.reduceNeg, zvar1, chunks, depth, some_map, Nat.reduceBEq, cf_dyn, okU, Tryz.f52, rf52]
    rw [List.take_length]
    obtain ⟨H1, e1⟩ := pend_run (patS bound a.args) (by rw [patS_size]; omega) k (by omega)
    exact ⟨H1, by simp only [R0, RC, zipEnv, Nat.reduceLT, Nat.reduceAdd, Nat.reduceEqDiff, Nat.reduceLeDiff, reduceCtorEq, ↓reduceIte, ares, aresult, pr, Int.reduceEq, Int.reduceLT, Int.reduceLE, Nat.reduceSub, Nat.reduceMul, aFieldAddr, aField, aLoad, aStore, aExtract, aBox, aint, rdVar, rdCells, Value.oneCell', splice, Int.reduceNeg, zvar1, chunks, depth, some_map, Nat.reduceBEq, cf_dyn, okU, Tryz.f52, rf52, e1]⟩
  obtain ⟨H1, e⟩ := key
  exact val_of e rfl rfl
end Go.Proofs.YtpgipdajinkdgaaGreatA
