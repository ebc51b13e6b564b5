/- The abstract evaluator is right: operations that read. -/
import Derived.Test.YtpgipdajinkdgaaGreatAvB
namespace Go.Proofs.YtpgipdajinkdgaaGreatA
open Go Go.RowKit
set_option linter.all false
set_option linter.unusedSectionVars false
set_option linter.constructorNameAsVariable false
set_option linter.unusedVariables false
set_option linter.unusedSimpArgs false
theorem add_add (a : Addr) (i j : Nat) : (a.add i).add j = a.add (i + j) := by
  unfold Addr.add
  by_cases hi : i = 0
  · subst hi; simp
  · by_cases hj : j = 0
    · subst hj; simp
    · rw [if_neg hi, if_neg hj, if_neg (by omega)]
      simp [Nat.add_assoc]
theorem add_block (a : Addr) (i : Nat) : (a.add i).block = a.block := by unfold Addr.add; split <;> rfl
theorem addr_add (g o i : Nat) : (⟨g, o, none⟩ : Addr).add i = ⟨g, o + i, none⟩ := by
  unfold Addr.add; split <;> simp_all
section
variable {P : Program} {w : World} {F : Nat → Prop} {B : BM} {H : List Blk}
theorem run_szOf {t : TypeId} {n : Nat} (h : szOf P t = some n) (w : World) : (sizeOf t).run P w = .ok n w := by
  unfold szOf at h
  obtain ⟨i, hi, rfl⟩ := Option.map_eq_some_iff.1 h
  simp [sizeOf, typeInfo, hi]
theorem run_typeInfo {t : TypeId} {i : TypeInfo} (h : P.info? t = some i) (w : World) : (typeInfo t).run P w = .ok i w := by
  simp [typeInfo, h]
theorem run_zero {t : TypeId} {i : TypeInfo} {z : Value} (h : P.info? t = some i) (hz : i.zero = some z) (w : World) : (zeroValue t).run P w = .ok z w := by
  simp [zeroValue, typeInfo, h, hz]
theorem run_under {t : TypeId} {d : TypeDesc} (h : P.underlying t = some d) (w : World) : (underlying t).run P w = .ok d w := by
  simp [underlying, h]
theorem run_aggB {t : TypeId} {b : Bool} (h : aggB P t = some b) (w : World) : (isAgg t).run P w = .ok b w := by
  unfold aggB at h
  obtain ⟨d, hd, rfl⟩ := Option.map_eq_some_iff.1 h
  simp only [isAgg, Sem.run_bind, run_under hd, Result.andThen_ok]
  cases d <;> rfl
theorem run_cells (a : Addr) : ∀ (n i : Nat) (acc : Array Value) (ys : List Value), ys.length = n → (∀ j y, ys[j]? = some y → w.cell? (a.add (i + j)) = some y) →
    (loadCellsFrom a i n acc).run P w = .ok (acc ++ ys.toArray) w
  | 0, i, acc, ys, hl, _ => by
    obtain rfl := List.eq_nil_of_length_eq_zero hl
    simp [loadCellsFrom]
  | n + 1, i, acc, ys, hl, hc => by
    cases ys with
    | nil => cases hl
    | cons y ys =>
      have h0 := hc 0 y rfl
      simp only [Nat.add_zero] at h0
      simp only [loadCellsFrom, Sem.run_bind, run_load, h0, Result.andThen_ok]
      rw [run_cells a n (i + 1) (acc.push y) ys (by simpa using hl) (fun j u hu => by
        have := hc (j + 1) u (by simpa using hu)
        rwa [show i + 1 + j = i + (j + 1) by omega])]
      congr 1
      apply Array.ext'
      simp
theorem rd_load {cs : List AV} {ys : List Value} {t : TypeId} {off : Nat} {x : AV} {a0 : Addr} {B' : BM} {Fb : Nat → Prop} (hv : VRL w Fb B' cs ys) (hc : ∀ j y, ys[j]? = some y → w.cell? (a0.add j) = some y)
    (h : rdVar P t cs off = some x) : ∃ v, (loadVar t (a0.add off)).run P w = .ok v w ∧ VR w Fb B' x v := by
  unfold rdVar at h
  split at h
  · rename_i n hb hs
    obtain ⟨l, hl, rfl⟩ := Option.map_eq_some_iff.1 h
    unfold rdCells at hl
    split at hl
    · rename_i hle
      cases hl
      have hlen := hv.length
      have hd : VRL w Fb B' ((cs.drop off).take n) ((ys.drop off).take n) := VRL.take n (VRL.drop off hv)
      refine ⟨.agg ((ys.drop off).take n).toArray, ?_, ?_⟩
      · simp only [loadVar, Sem.run_bind, run_aggB hb, run_szOf hs, Result.andThen_ok, if_true]
        have : (loadCells (a0.add off) n).run P w = .ok ((ys.drop off).take n).toArray w := by
          unfold loadCells
          rw [run_cells (a0.add off) n 0 #[] ((ys.drop off).take n) (by simp; omega) (fun j y hy => by
            rw [Nat.zero_add, add_add]
            refine hc (off + j) y ?_
            rw [List.getElem?_take] at hy
            split at hy
            · rwa [List.getElem?_drop] at hy
            · cases hy)]
          simp
        simp only [Sem.run_bind, this, Result.andThen_ok, Sem.run_pure]
      · simp only [VR]
        exact ⟨_, rfl, by simpa using hd⟩
    · cases hl
  · rename_i n hb hs
    obtain ⟨y, hy, hxy⟩ := VRL.get hv h
    refine ⟨y, ?_, hxy⟩
    simp only [loadVar, Sem.run_bind, run_aggB hb, Result.andThen_ok]
    simp [hc off y hy]
  · cases h
theorem rd_part {cs : List AV} {c : Array Value} {t : TypeId} {off : Nat} {x : AV} {B' : BM} {Fb : Nat → Prop} (hv : VRL w Fb B' cs c.toList)
    (h : rdVar P t cs off = some x) : ∃ v, (part t c off).run P w = .ok v w ∧ VR w Fb B' x v := by
  unfold rdVar at h
  split at h
  · rename_i n hb hs
    obtain ⟨l, hl, rfl⟩ := Option.map_eq_some_iff.1 h
    unfold rdCells at hl
    split at hl
    · cases hl
      have hd : VRL w Fb B' ((cs.drop off).take n) ((c.toList.drop off).take n) := VRL.take n (VRL.drop off hv)
      refine ⟨.agg (c.extract off (off + n)), ?_, ?_⟩
      · simp only [part, Sem.run_bind, run_aggB hb, run_szOf hs, Result.andThen_ok, if_true, Sem.run_pure]
      · simp only [VR]
        refine ⟨_, rfl, ?_⟩
        rw [Array.toList_extract]
        simpa [List.extract] using hd
    · cases hl
  · rename_i n hb hs
    obtain ⟨y, hy, hxy⟩ := VRL.get hv h
    refine ⟨y, ?_, hxy⟩
    have hc : c[off]? = some y := by rw [← Array.getElem?_toList]; exact hy
    simp only [part, Sem.run_bind, run_aggB hb, Result.andThen_ok, hc]
    rfl
  · cases h
def HRw (w : World) (F : Nat → Prop) (B : BM) (H : List Blk) : Prop :=
  ∀ b g v c blk, B b = some (g, v, c) → H[b]? = some blk → v = blk.ver ∧ BRel w (Forb F B) B blk g c
theorem HR.weak (h : HR w F B H) : HRw w F B H := fun b g v c blk hb hk => by
  obtain ⟨blk', hk', hv, hr⟩ := h.at_ b g v c hb
  rw [hk] at hk'
  cases hk'
  exact ⟨hv, hr⟩
theorem blkAt_some {b ver : Nat} {blk : Blk} (h : blkAt H b ver = some blk) : H[b]? = some blk ∧ blk.ver = ver ∧ blk.kind = .cells := by
  unfold blkAt at h
  split at h
  · rename_i bk hk
    split at h
    · rename_i hkd
      cases hb : Nat.beq bk.ver ver
      · rw [hb] at h; cases h
      · rw [hb] at h
        cases h
        exact ⟨hk, Nat.eq_of_beq_eq_true hb, hkd⟩
    · cases h
  · cases h
theorem appAt_some {b ver : Nat} {blk : Blk} (h : appAt H b ver = some blk) : H[b]? = some blk ∧ blk.ver = ver ∧ blk.kind = .app := by
  unfold appAt at h
  split at h
  · rename_i bk hk
    split at h
    · rename_i hkd
      cases hb : Nat.beq bk.ver ver
      · rw [hb] at h; cases h
      · rw [hb] at h
        cases h
        exact ⟨hk, Nat.eq_of_beq_eq_true hb, hkd⟩
    · cases h
  · cases h
theorem aliAt_some {b ver : Nat} {blk : Blk} (h : aliAt H b ver = some blk) : H[b]? = some blk ∧ blk.ver = ver ∧ blk.kind = .ali := by
  unfold aliAt at h
  split at h
  · rename_i bk hk
    split at h
    · rename_i hkd
      cases hb : Nat.beq bk.ver ver
      · rw [hb] at h; cases h
      · rw [hb] at h
        cases h
        exact ⟨hk, Nat.eq_of_beq_eq_true hb, hkd⟩
    · cases h
  · cases h
theorem own_at {b o len sz ver : Nat} {v : Value} {blk : Blk} (hH : HRw w F B H) (h : VR w (Forb F B) B (.own b o len sz ver) v) (hb : blkAt H b ver = some blk) :
    ∃ g cap c, v = .slice (some ⟨g, o * sz, none⟩) len cap ∧ B b = some (g, ver, c) ∧ len ≤ cap ∧ (∀ n, c = some n → cap + o = n) ∧ BRelC w (Forb F B) B blk g c := by
  obtain ⟨hk, hv, hkd⟩ := blkAt_some hb
  simp only [VR] at h
  obtain ⟨A, cap, g, v', c, rfl, e, _, hx⟩ := h
  obtain ⟨h1, h2⟩ := hH b g v' c blk e hk
  simp only [BRel, hkd] at h2
  have hv' : v' = ver := by rw [h1, hv]
  obtain ⟨rfl, hl, hc⟩ := hx hv'
  subst hv'
  exact ⟨g, cap, c, rfl, e, hl, hc, h2⟩
theorem own_atA {b o len sz ver : Nat} {v : Value} {blk : Blk} (hH : HRw w F B H) (h : VR w (Forb F B) B (.own b o len sz ver) v) (hb : appAt H b ver = some blk) :
    ∃ g cap c, v = .slice (some ⟨g, o * sz, none⟩) len cap ∧ B b = some (g, ver, c) ∧ len ≤ cap ∧ (∀ n, c = some n → cap + o = n) ∧ BRelC w (Forb F B) B blk g c := by
  obtain ⟨hk, hv, hkd⟩ := appAt_some hb
  simp only [VR] at h
  obtain ⟨A, cap, g, v', c, rfl, e, _, hx⟩ := h
  obtain ⟨h1, h2⟩ := hH b g v' c blk e hk
  simp only [BRel, hkd] at h2
  have hv' : v' = ver := by rw [h1, hv]
  obtain ⟨rfl, hl, hc⟩ := hx hv'
  subst hv'
  exact ⟨g, cap, c, rfl, e, hl, hc, h2⟩
theorem own_atR {b o len sz ver : Nat} {v : Value} {blk : Blk} (hH : HRw w F B H) (h : VR w (Forb F B) B (.own b o len sz ver) v) (hb : blkR H b ver = some blk) :
    ∃ g cap c, v = .slice (some ⟨g, o * sz, none⟩) len cap ∧ B b = some (g, ver, c) ∧ len ≤ cap ∧ BRelA w (Forb F B) B blk g := by
  unfold blkR at hb
  split at hb
  · rename_i blk' hb'
    cases hb
    obtain ⟨g, cap, c, h1, h2, h3, _, h4⟩ := own_at hH h hb'
    exact ⟨g, cap, c, h1, h2, h3, h4.ali⟩
  · split at hb
    · rename_i blk' hb'
      cases hb
      obtain ⟨g, cap, c, h1, h2, h3, _, h4⟩ := own_atA hH h hb'
      exact ⟨g, cap, c, h1, h2, h3, h4.ali⟩
    · obtain ⟨hk, hv, hkd⟩ := aliAt_some hb
      simp only [VR] at h
      obtain ⟨A, cap, g, v', c, rfl, e, _, hx⟩ := h
      obtain ⟨h1, h2⟩ := hH b g v' c blk e hk
      simp only [BRel, hkd] at h2
      have hv' : v' = ver := by rw [h1, hv]
      obtain ⟨rfl, hl, hc⟩ := hx hv'
      subst hv'
      exact ⟨g, cap, c, rfl, e, hl, h2⟩
theorem ptr_at {b off ver : Nat} {v : Value} {blk : Blk} (hH : HRw w F B H) (h : VR w (Forb F B) B (.ptr b off ver) v) (hb : blkAt H b ver = some blk) :
    ∃ g c, v = .pointer (some ⟨g, off, none⟩) ∧ B b = some (g, ver, c) ∧ BRelC w (Forb F B) B blk g c := by
  obtain ⟨hk, hv, hkd⟩ := blkAt_some hb
  simp only [VR] at h
  obtain ⟨a, g, v', c, rfl, e, _, hx⟩ := h
  obtain ⟨h1, h2⟩ := hH b g v' c blk e hk
  simp only [BRel, hkd] at h2
  have hv' : v' = ver := by rw [h1, hv]
  subst hv'
  cases hx rfl
  exact ⟨g, c, rfl, e, h2⟩
theorem brel_cellsA {Fb : Nat → Prop} {blk : Blk} {g : Nat} (h : BRelA w Fb B blk g) : ∃ ys, VRL w Fb B blk.cells ys ∧ (∀ y ∈ ys, y.oneCell' = true) ∧ ∀ j y, ys[j]? = some y → w.cell? ((⟨g, 0, none⟩ : Addr).add j) = some y := by
  obtain ⟨cur, ys, rest, hh, hl, hv, h1⟩ := h
  refine ⟨ys, hv, h1, fun j y hy => ?_⟩
  rw [addr_add]
  simp only [World.cell?, hh, Nat.zero_add]
  have : cur.toList[j]? = some y := by rw [hl, List.getElem?_append_left (by rcases Nat.lt_or_ge j ys.length with h' | h'; exact h'; rw [List.getElem?_eq_none h'] at hy; cases hy)]; exact hy
  simpa using this
theorem brel_cells {Fb : Nat → Prop} {blk : Blk} {g : Nat} {c : Option Nat} (h : BRelC w Fb B blk g c) : ∃ ys, VRL w Fb B blk.cells ys ∧ (∀ y ∈ ys, y.oneCell' = true) ∧ ∀ j y, ys[j]? = some y → w.cell? ((⟨g, 0, none⟩ : Addr).add j) = some y := brel_cellsA h.ali
theorem sop_sound {a : Act} {ρ : Operand → AV} {Fb : Nat → Prop} (hρ : ∀ x, VR w Fb B (ρ x) (a.eval x)) {o : Oper} {x : AV} (h : sop P ρ o = some x) :
    ∃ v, (execOp a.eval o).run P w = .ok (.value v) w ∧ VR w Fb B x v := by
  unfold sop at h
  split at h
  · rename_i hc
    simp only [Bool.and_eq_true, Array.all_eq_true'] at hc
    obtain ⟨h1, h2⟩ := hc
    split at h
    · rename_i v hv
      cases h
      refine ⟨v, ?_, VR.ofV v⟩
      have he : execOp a.eval o = execOp (fun x => (toV (ρ x)).getD undef) o := by
        refine execOp_congr o (fun cs b e => by rw [e] at h2; simp [isSel] at h2) (fun x hx => ?_)
        have h3 := h1 x hx
        obtain ⟨u, hu⟩ := Option.isSome_iff_exists.1 h3
        rw [hu]
        exact toV_sound (hρ x) hu
      rw [he]
      exact pureRun_sound hv w
    · cases h
  · cases h
end
end Go.Proofs.YtpgipdajinkdgaaGreatA

namespace Go.Proofs.YtpgipdajinkdgaaGreatA
open Go Go.RowKit
set_option linter.all false
set_option linter.unusedSectionVars false
set_option linter.constructorNameAsVariable false
set_option linter.unusedVariables false
set_option linter.unusedSimpArgs false
theorem acells_solid {w : World} {Fb : Nat → Prop} {B : BM} {x : AV} {v : Value} (h : VR w Fb B x v) (hs : solid x = true) : VRL w Fb B (acells x) v.cells.toList := by
  have key : ∀ u : AV, one u = true → VR w Fb B u v → v.oneCell' = true := by
    intro u hu hv
    cases u <;> simp only [one, Bool.false_eq_true] at hu <;> simp only [VR] at hv
    case sc u => rw [hv]; exact hu
    case lst => obtain ⟨_, _, _, rfl, _⟩ := hv; rfl
    case ro => obtain ⟨_, _, rfl, _⟩ := hv; rfl
    case own => obtain ⟨_, _, _, _, _, rfl, _⟩ := hv; rfl
    case ptr => obtain ⟨_, _, _, _, rfl, _⟩ := hv; rfl
    case fn => obtain ⟨_, rfl, _⟩ := hv; rfl
    case ifc => obtain ⟨_, rfl, _⟩ := hv; rfl
    case z => obtain ⟨_, rfl⟩ := hv; rfl
    case mp => obtain ⟨_, _, _, _, rfl, _⟩ := hv; rfl
  have single : ∀ u : AV, one u = true → VR w Fb B u v → VRL w Fb B [u] v.cells.toList := by
    intro u hu hv
    have := key u hu hv
    have hc : v.cells = #[v] := by cases v <;> simp_all [Value.oneCell', Value.cells]
    rw [hc]
    simp only [VRL]
    exact ⟨v, [], rfl, hv, rfl⟩
  cases x with
  | agg cs =>
    simp only [VR] at h
    obtain ⟨c, rfl, h⟩ := h
    exact h
  | bad => simp [solid, one] at hs
  | tup _ => simp [solid, one] at hs
  | sc u => exact single _ hs h
  | lst a b => exact single _ hs h
  | ro a => exact single _ hs h
  | own a b c d e => exact single _ hs h
  | ptr a b c => exact single _ hs h
  | fn a b => exact single _ hs h
  | ifc a b => exact single _ hs h
  | z => exact single _ hs h
  | mp a b => exact single _ hs h
theorem one_cell {w : World} {Fb : Nat → Prop} {B : BM} : ∀ {xs : List AV} {ys : List Value}, VRL w Fb B xs ys → xs.all one = true → ∀ y ∈ ys, y.oneCell' = true
  | [], ys, h, _, y, hy => by simp only [VRL] at h; subst h; cases hy
  | x :: xs, ys, h, ho, y, hy => by
    simp only [VRL] at h
    obtain ⟨v, r, rfl, h1, h2⟩ := h
    simp only [List.all_cons, Bool.and_eq_true] at ho
    rcases List.mem_cons.1 hy with rfl | hy
    · cases x <;> simp only [one, Bool.false_eq_true, false_and] at ho <;> simp only [VR] at h1
      case sc u => rw [h1]; exact ho.1
      case lst => obtain ⟨_, _, _, rfl, _⟩ := h1; rfl
      case ro => obtain ⟨_, _, rfl, _⟩ := h1; rfl
      case own => obtain ⟨_, _, _, _, _, rfl, _⟩ := h1; rfl
      case ptr => obtain ⟨_, _, _, _, rfl, _⟩ := h1; rfl
      case fn => obtain ⟨_, rfl, _⟩ := h1; rfl
      case ifc => obtain ⟨_, rfl, _⟩ := h1; rfl
      case z => obtain ⟨_, rfl⟩ := h1; rfl
      case mp => obtain ⟨_, _, _, _, rfl, _⟩ := h1; rfl
    · exact one_cell h2 ho.2 y hy
theorem setAll (off : Nat) : ∀ (vs : List Value) (k : Nat) (c : Array Value), off + k + vs.length ≤ c.size →
    ((vs.zipIdx k).foldl (fun cs (x : Value × Nat) => cs.setIfInBounds (off + x.2) x.1) c).toList = c.toList.take (off + k) ++ vs ++ c.toList.drop (off + k + vs.length)
  | [], k, c, _ => by simp
  | v :: vs, k, c, h => by
    simp only [List.length_cons] at h
    simp only [List.zipIdx_cons, List.foldl_cons]
    rw [setAll off vs (k + 1) _ (by simp; omega)]
    have hs : (c.setIfInBounds (off + k) v).toList = c.toList.set (off + k) v := by simp
    rw [hs]
    have hl : off + k < c.toList.length := by rw [Array.length_toList]; omega
    rw [List.take_set, List.drop_set_of_lt (by omega)]
    have h1 : (c.toList.take (off + (k + 1))).set (off + k) v = c.toList.take (off + k) ++ [v] := by
      rw [show off + (k + 1) = off + k + 1 by omega, List.take_succ_eq_append_getElem hl, List.set_append_right _ _ (by simp; omega)]
      rw [List.length_take, Nat.min_eq_left (Nat.le_of_lt hl), Nat.sub_self]
      rfl
    rw [h1, show off + (k + 1) + vs.length = off + k + (v :: vs).length by simp only [List.length_cons]; omega]
    simp only [List.append_assoc, List.singleton_append, List.cons_append, List.nil_append]
section
variable {P : Program} {w : World} {F : Nat → Prop} {B : BM} {H : List Blk} {a : Act} {ρ : Operand → AV}
def VRP (w : World) (Fb : Nat → Prop) (B : BM) : List (Nat × AV) → List (Nat × Value) → Prop
  | [], ys => ys = []
  | (i, x) :: xs, ys => ∃ y r, ys = (i, y) :: r ∧ VR w Fb B x y ∧ VRP w Fb B xs r
theorem VRP.map {Fb : Nat → Prop} (hρ : ∀ x, VR w Fb B (ρ x) (a.eval x)) : ∀ parts : List (Nat × Operand), VRP w Fb B (parts.map fun (j, x) => (j, ρ x)) (parts.map fun (j, x) => (j, a.eval x))
  | [] => rfl
  | (i, x) :: r => ⟨_, _, rfl, hρ x, VRP.map hρ r⟩
theorem fill_sound {Fb : Nat → Prop} {place place' : Nat → Option (Nat × Nat)} (hp : ∀ i q, place i = some q → place' i = some q) : ∀ {xs : List (Nat × AV)} {ys : List (Nat × Value)} {cs cs' : List AV} {c : Array Value},
    VRP w Fb B xs ys → VRL w Fb B cs c.toList → afill place cs xs = some cs' → ∃ c', Instr.fill place' c ys = some c' ∧ VRL w Fb B cs' c'.toList ∧ cs'.length = cs.length
  | [], ys, cs, cs', c, h, hv, hf => by
    simp only [VRP] at h
    subst h
    simp only [afill, Option.some.injEq] at hf
    subst hf
    exact ⟨c, rfl, hv, rfl⟩
  | (i, x) :: xs, ys, cs, cs', c, h, hv, hf => by
    simp only [VRP] at h
    obtain ⟨y, r, rfl, h1, h2⟩ := h
    simp only [afill] at hf
    split at hf
    · cases hf
    · rename_i off size hpl
      split at hf
      · rename_i hc
        simp only [Bool.and_eq_true, beq_iff_eq, decide_eq_true_eq] at hc
        obtain ⟨⟨hs, hlen⟩, hle⟩ := hc
        have hcells := acells_solid h1 hs
        have hl1 := hcells.length
        have hl2 := hv.length
        have hsz : y.cells.size = size := by rw [← hlen, ← hl1]; simp
        have hcs : c.size = cs.length := by rw [← hl2]; simp
        let c1 := (y.cells.zipIdx.foldl (fun cs (x : Value × Nat) => cs.setIfInBounds (off + x.2) x.1) c)
        have e1 : c1.toList = c.toList.take off ++ y.cells.toList ++ c.toList.drop (off + y.cells.toList.length) := by
          have := setAll off y.cells.toList 0 c (by simp; omega)
          rw [Nat.add_zero] at this
          rw [← this]
          show (Array.foldl _ c y.cells.zipIdx).toList = _
          rw [← Array.foldl_toList]
          congr 2
          simp
        have hv1 : VRL w Fb B (splice cs off (acells x)) c1.toList := by
          rw [e1]
          unfold splice
          rw [hl1]
          exact VRL.append (VRL.append (VRL.take off hv) hcells) (VRL.drop _ hv)
        obtain ⟨c', hc', hv', hl'⟩ := fill_sound hp (c := c1) h2 hv1 hf
        refine ⟨c', ?_, hv', ?_⟩
        · simp only [Instr.fill, hp _ _ hpl]
          rw [if_neg (by simp; omega)]
          exact hc'
        · rw [hl']
          simp only [splice, List.length_append, List.length_take, List.length_drop]
          omega
      · cases hf
def ValOk (P : Program) (w : World) (F : Nat → Prop) (B : BM) (a : Act) (o : Oper) (x : AV) : Prop :=
  ∃ v, (execOp a.eval o).run P w = .ok (.value v) w ∧ VR w (Forb F B) B x v
theorem places_run : ∀ {fs : List Field} {pl : List (Nat × Nat)}, places P fs = some pl →
    (fs.mapM fun (f : Field) => do let s ← sizeOf f.type; pure (f.offset, s)).run P w = .ok pl w
  | [], pl, h => by simp only [places, Option.some.injEq] at h; subst h; rfl
  | f :: fs, pl, h => by
    simp only [places] at h
    split at h
    · rename_i s l hs hl
      cases h
      simp only [List.mapM_cons, Sem.run_bind, run_szOf hs, Result.andThen_ok, Sem.run_pure, places_run hl]
    · cases h
theorem op_build {o : Oper} {t : TypeId} {parts : Array (Nat × Operand)} (ho : o.op = .build t parts) (hρ : ∀ x, VR w (Forb F B) B (ρ x) (a.eval x)) {r : Res} (h : aop P H ρ o = some r) :
    ∃ x, r = .val x ∧ ValOk P w F B a o x := by
  simp only [aop, ho] at h
  split at h <;> try (cases h; done)
  rename_i i hi
  split at h <;> try (cases h; done)
  rename_i zv hz
  have hzr := fun w => run_zero (P := P) hi hz w
  have he : (parts.map fun (x : Nat × Operand) => (x.1, a.eval x.2)).toList = parts.toList.map fun (x : Nat × Operand) => (x.1, a.eval x.2) := by simp
  split at h
  · rename_i fields hu
    split at h <;> try (cases h; done)
    rename_i pl hpl
    obtain ⟨cs, hcs, rfl⟩ := Option.map_eq_some_iff.1 h
    obtain ⟨c', hc', hv', _⟩ := fill_sound (place := (pl[·]?)) (place' := (pl.toArray[·]?)) (fun i q hq => by simpa using hq) (VRP.map hρ parts.toList) (VRL.sc zv.cells.toList) hcs
    refine ⟨_, rfl, .agg c', ?_, by simp only [VR]; exact ⟨c', rfl, hv'⟩⟩
    have hm : (fields.mapM fun (f : Field) => do let s ← sizeOf f.type; pure (f.offset, s)).run P w = .ok pl.toArray w := by
      have := places_run (w := w) hpl
      have e : fields = fields.toList.toArray := by simp
      rw [e, List.mapM_toArray]
      simp only [Sem.run_map, this, Result.andThen_ok]
    simp only [execOp, ho, Instr.build, Sem.run_bind, hzr, Result.andThen_ok, Sem.run_pure, run_under hu, hm]
    rw [he, hc']
    rfl
  · rename_i n e hu
    split at h <;> try (cases h; done)
    rename_i s hs
    obtain ⟨cs, hcs, rfl⟩ := Option.map_eq_some_iff.1 h
    obtain ⟨c', hc', hv', _⟩ := fill_sound (place' := fun j => some (j * s, s)) (fun i q hq => hq) (VRP.map hρ parts.toList) (VRL.sc zv.cells.toList) hcs
    refine ⟨_, rfl, .agg c', ?_, by simp only [VR]; exact ⟨c', rfl, hv'⟩⟩
    simp only [execOp, ho, Instr.build, Sem.run_bind, hzr, Result.andThen_ok, Sem.run_pure, run_under hu, run_szOf hs]
    rw [he, hc']
    rfl
  · cases h
end
end Go.Proofs.YtpgipdajinkdgaaGreatA

namespace Go.Proofs.YtpgipdajinkdgaaGreatA
open Go Go.RowKit
set_option linter.all false
set_option linter.unusedSectionVars false
set_option linter.constructorNameAsVariable false
set_option linter.unusedVariables false
set_option linter.unusedSimpArgs false
section
variable {P : Program} {w : World} {F : Nat → Prop} {B : BM} {H : List Blk} {a : Act} {ρ : Operand → AV}
theorem ValOk.of_sop (hρ : ∀ x, VR w (Forb F B) B (ρ x) (a.eval x)) {o : Oper} {r : Res} (h : (sop P ρ o).map Res.val = some r) : ∃ x, r = .val x ∧ ValOk P w F B a o x := by
  obtain ⟨x, hx, rfl⟩ := Option.map_eq_some_iff.1 h
  exact ⟨x, rfl, sop_sound hρ hx⟩
theorem val_map {α : Type} {o : Oper} {x : Option AV} {r : Res} (h : x.map Res.val = some r) : ∃ y, x = some y ∧ r = .val y := by
  obtain ⟨y, hy, rfl⟩ := Option.map_eq_some_iff.1 h
  exact ⟨y, hy, rfl⟩
theorem op_load (hH : HRw w F B H) (hρ : ∀ x, VR w (Forb F B) B (ρ x) (a.eval x)) {o : Oper} {t : TypeId} {y : Operand} (ho : o.op = .load t y) {r : Res} (h : aop P H ρ o = some r) :
    ∃ x, r = .val x ∧ ValOk P w F B a o x := by
  simp only [aop, ho] at h
  have hy := hρ y
  split at h
  · rename_i b off ver e
    rw [e] at hy
    split at h <;> try (cases h; done)
    rename_i blk hb
    obtain ⟨x, hx, rfl⟩ := val_map (α := Unit) (o := o) h
    obtain ⟨g, c, hv, _, hbr⟩ := ptr_at hH hy hb
    obtain ⟨ys, hys, _, hc⟩ := brel_cells hbr
    obtain ⟨v, hrun, hvr⟩ := rd_load (P := P) hys hc hx
    rw [addr_add, Nat.zero_add] at hrun
    refine ⟨x, rfl, v, ?_, hvr⟩
    simp only [execOp, ho, hv, Instr.loadAt, Instr.sureAddr, Sem.run_bind, Sem.run_pure, Result.andThen_ok, hrun]
  · rename_i cs e
    rw [e] at hy
    obtain ⟨x, hx, rfl⟩ := val_map (α := Unit) (o := o) h
    simp only [VR] at hy
    obtain ⟨a0, ys, hv, hys, hM⟩ := hy
    rcases hM.2 with h0 | ⟨a1, e1, hf, hc⟩
    · subst h0
      -- nothing is there: only what has no cells is read, and that is no variable
      have hcs : cs = [] := by have := hys.length; exact List.eq_nil_of_length_eq_zero (by simpa using this.symm)
      subst hcs
      obtain ⟨v, hrun, hvr⟩ := rd_load (P := P) (a0 := a0) hys (fun j y hj => by simp at hj) hx
      have e0 : a0.add 0 = a0 := by unfold Addr.add; simp
      rw [e0] at hrun
      refine ⟨x, rfl, v, ?_, VR.mono (fun a y hf hc => ⟨hc, hf⟩) x _ _ (BLe.none B) _ hvr⟩
      simp only [execOp, ho, hv, Instr.loadAt, Instr.sureAddr, Sem.run_bind, Sem.run_pure, Result.andThen_ok, hrun]
    · cases e1
      obtain ⟨v, hrun, hvr⟩ := rd_load (P := P) hys hc hx
      have e0 : a0.add 0 = a0 := by unfold Addr.add; simp
      rw [e0] at hrun
      refine ⟨x, rfl, v, ?_, VR.mono (fun a y hf hc => ⟨hc, hf⟩) x _ _ (BLe.none B) _ hvr⟩
      simp only [execOp, ho, hv, Instr.loadAt, Instr.sureAddr, Sem.run_bind, Sem.run_pure, Result.andThen_ok, hrun]
  · cases h
theorem op_move (hρ : ∀ x, VR w (Forb F B) B (ρ x) (a.eval x)) {o : Oper} {y : Operand} (ho : o.op = .move y ∨ o.op = .assign y) {r : Res} (h : aop P H ρ o = some r) :
    ∃ x, r = .val x ∧ ValOk P w F B a o x := by
  rcases ho with ho | ho <;> simp only [aop, ho, Option.some.injEq] at h <;> subst h <;> exact ⟨_, rfl, _, by simp only [execOp, ho, Sem.run_pure], hρ y⟩
theorem op_pick (hρ : ∀ x, VR w (Forb F B) B (ρ x) (a.eval x)) {o : Oper} {c x y : Operand} (ho : o.op = .pick c x y) {r : Res} (h : aop P H ρ o = some r) :
    ∃ x, r = .val x ∧ ValOk P w F B a o x := by
  simp only [aop, ho] at h
  have hc := hρ c
  split at h
  · rename_i t e
    rw [e] at hc
    simp only [VR] at hc
    cases h
    refine ⟨_, rfl, if t then a.eval x else a.eval y, ?_, by split; exact hρ x; exact hρ y⟩
    simp only [execOp, ho, hc, asBool, Sem.run_bind, Sem.run_pure, Result.andThen_ok]
  · cases h
theorem op_nilCheck (hρ : ∀ x, VR w (Forb F B) B (ρ x) (a.eval x)) {o : Oper} {y : Operand} (ho : o.op = .nilCheck y) {r : Res} (h : aop P H ρ o = some r) :
    ∃ x, r = .val x ∧ ValOk P w F B a o x := by
  have ho' := ho
  simp only [aop, ho] at h
  have hy := hρ y
  split at h
  · rename_i b off ver e
    rw [e] at hy
    cases h
    have hy' := hy
    simp only [VR] at hy'
    obtain ⟨a0, _, _, _, hv, _⟩ := hy'
    refine ⟨_, rfl, a.eval y, ?_, hy⟩
    simp only [execOp, ho, hv, Sem.run_bind, Sem.run_pure, Result.andThen_ok]
  · rename_i cs e
    rw [e] at hy
    cases h
    have hy' := hy
    simp only [VR] at hy'
    obtain ⟨a0, _, hv, _⟩ := hy'
    refine ⟨_, rfl, a.eval y, ?_, hy⟩
    simp only [execOp, ho, hv, Sem.run_bind, Sem.run_pure, Result.andThen_ok]
  · rename_i f caps e
    rw [e] at hy
    cases h
    have hy' := hy
    simp only [VR] at hy'
    obtain ⟨c, hv, _⟩ := hy'
    refine ⟨_, rfl, a.eval y, ?_, hy⟩
    simp only [execOp, ho, hv, Sem.run_bind, Sem.run_pure, Result.andThen_ok]
  · exact ValOk.of_sop hρ h
theorem VRL.map {Fb : Nat → Prop} (hρ : ∀ x, VR w Fb B (ρ x) (a.eval x)) : ∀ xs : List Operand, VRL w Fb B (xs.map ρ) (xs.map a.eval)
  | [] => by simp [VRL]
  | x :: xs => by simp only [List.map_cons, VRL]; exact ⟨_, _, rfl, hρ x, VRL.map hρ xs⟩
theorem op_makeFunc (hρ : ∀ x, VR w (Forb F B) B (ρ x) (a.eval x)) {o : Oper} {fn : Fn} {first caps : Array Operand} (ho : o.op = .makeFunc fn first caps) {r : Res} (h : aop P H ρ o = some r) :
    ∃ x, r = .val x ∧ ValOk P w F B a o x := by
  cases fn <;> simp only [aop, ho] at h
  case func f =>
    split at h
    · rename_i h0
      cases h
      have hf : first = #[] := Array.eq_empty_of_size_eq_zero h0
      subst hf
      refine ⟨_, rfl, .func (.func f) #[] (caps.map a.eval), ?_, ?_⟩
      · simp only [execOp, ho, Instr.makeFunc, Sem.run_bind, Sem.run_pure, Result.andThen_ok, List.map_toArray, List.map_nil]
      · simp only [VR]
        exact ⟨_, rfl, by rw [Array.toList_map]; exact VRL.map hρ _⟩
    · cases h
  all_goals exact ValOk.of_sop hρ h
theorem op_makeInterface (hρ : ∀ x, VR w (Forb F B) B (ρ x) (a.eval x)) {o : Oper} {t : TypeId} {y : Operand} (ho : o.op = .makeInterface t y) {r : Res} (h : aop P H ρ o = some r) :
    ∃ x, r = .val x ∧ ValOk P w F B a o x := by
  simp only [aop, ho] at h
  split at h <;> try (cases h; done)
  rename_i d hn hd
  cases h
  refine ⟨_, rfl, .iface t (a.eval y), ?_, by simp only [VR]; exact ⟨_, rfl, hρ y⟩⟩
  simp only [execOp, ho, Instr.makeInterface, Sem.run_bind, run_under hd, Result.andThen_ok]
  cases d <;> first | rfl | exact absurd rfl (hn _)
theorem op_field (hρ : ∀ x, VR w (Forb F B) B (ρ x) (a.eval x)) {o : Oper} {t : TypeId} {y : Operand} {f : Nat} (ho : o.op = .field t y f) {r : Res} (h : aop P H ρ o = some r) :
    ∃ x, r = .val x ∧ ValOk P w F B a o x := by
  simp only [aop, ho] at h
  have hy := hρ y
  split at h <;> try (cases h; done)
  rename_i fields hu
  split at h <;> try (cases h; done)
  rename_i fd cs hfd e
  rw [e] at hy
  simp only [VR] at hy
  obtain ⟨c, hv, hcs⟩ := hy
  obtain ⟨x, hx, rfl⟩ := val_map (α := Unit) (o := o) h
  obtain ⟨v, hrun, hvr⟩ := rd_part (P := P) hcs hx
  refine ⟨x, rfl, v, ?_, hvr⟩
  simp only [execOp, ho, Instr.field, Sem.run_bind, run_under hu, Result.andThen_ok, hfd, hv, asAgg, Sem.run_pure, hrun]
theorem op_extract (hρ : ∀ x, VR w (Forb F B) B (ρ x) (a.eval x)) {o : Oper} {y : Operand} {i : Nat} (ho : o.op = .extract y i) {r : Res} (h : aop P H ρ o = some r) :
    ∃ x, r = .val x ∧ ValOk P w F B a o x := by
  simp only [aop, ho] at h
  have hy := hρ y
  split at h <;> try (cases h; done)
  rename_i vs e
  rw [e] at hy
  simp only [VR] at hy
  obtain ⟨c, hv, hcs⟩ := hy
  obtain ⟨x, hx, rfl⟩ := val_map (α := Unit) (o := o) h
  obtain ⟨u, hu, hvr⟩ := VRL.get hcs hx
  refine ⟨x, rfl, u, ?_, hvr⟩
  have hc : c[i]? = some u := by rw [← Array.getElem?_toList]; exact hu
  simp only [execOp, ho, Instr.extract, hv, hc, Sem.run_bind, Sem.run_pure, Result.andThen_ok]
theorem aint_at {Fb : Nat → Prop} {x : AV} {v : Value} {n : Int} (h : VR w Fb B x v) (hn : aint x = some n) : ∃ k, v = .int k n := by
  cases x <;> simp only [aint] at hn <;> try (cases hn; done)
  rename_i u
  simp only [VR] at h
  subst h
  split at hn
  · rename_i k m e
    cases hn
    injection e with e
    exact ⟨k, e⟩
  · cases hn
theorem run_asInt {k : IntKind} {n : Int} : (asIntOf (.int k n)).run P w = .ok (k, n) w := rfl
theorem op_fieldAddr (hH : HRw w F B H) (hρ : ∀ x, VR w (Forb F B) B (ρ x) (a.eval x)) {o : Oper} {t : TypeId} {y : Operand} {f : Nat} (ho : o.op = .fieldAddr t y f) {r : Res} (h : aop P H ρ o = some r) :
    ∃ x, r = .val x ∧ ValOk P w F B a o x := by
  simp only [aop, ho] at h
  have hy := hρ y
  split at h <;> try (cases h; done)
  rename_i fields hu
  split at h <;> try (cases h; done)
  rename_i fd hfd
  split at h
  · rename_i n b off ver hs e
    rw [e] at hy
    split at h <;> try (cases h; done)
    rename_i blk hb
    cases h
    obtain ⟨g, c, hv, hB, _⟩ := ptr_at hH hy hb
    refine ⟨_, rfl, .pointer (some ⟨g, off + fd.offset, none⟩), ?_, ?_⟩
    · simp only [execOp, ho, Instr.fieldAt, Sem.run_bind, run_under hu, Result.andThen_ok, hfd, hv, Instr.sureAddr, Sem.run_pure, fieldPlace, run_szOf hs, Sem.run_ite, Nat.succ_ne_zero, if_false, addr_add]
    · simp only [VR]
      exact ⟨_, g, ver, c, rfl, hB, Nat.le_refl _, fun _ => rfl⟩
  · rename_i n cs hs e
    rw [e] at hy
    split at h <;> try (cases h; done)
    rename_i hle
    cases h
    simp only [VR] at hy
    obtain ⟨a0, ys, hv, hys, hM⟩ := hy
    refine ⟨_, rfl, .pointer (some (a0.add fd.offset)), ?_, ?_⟩
    · simp only [execOp, ho, Instr.fieldAt, Sem.run_bind, run_under hu, Result.andThen_ok, hfd, hv, Instr.sureAddr, Sem.run_pure, fieldPlace, run_szOf hs, Sem.run_ite, Nat.succ_ne_zero, if_false]
    · simp only [VR]
      refine ⟨_, ys.drop fd.offset, rfl, VRL.drop _ hys, fun y hy => hM.1 y (List.mem_of_mem_drop hy), ?_⟩
      rcases hM.2 with h0 | ⟨a1, e1, hf, hc⟩
      · left; rw [h0]; simp
      · cases e1
        refine .inr ⟨_, rfl, by rw [add_block]; exact hf, fun j y hj => ?_⟩
        rw [add_add]
        rw [List.getElem?_drop] at hj
        exact hc _ _ hj
  · cases h
theorem Mem.sub {Fb : Nat → Prop} {A : Option Addr} {ys : List Value} (h : Mem w Fb A ys) (k n : Nat) {A' : Option Addr} (hA : (ys.drop k).take n ≠ [] → A' = A.map (·.add k)) : Mem w Fb A' ((ys.drop k).take n) := by
  refine ⟨fun y hy => h.1 y (List.mem_of_mem_drop (List.mem_of_mem_take hy)), ?_⟩
  by_cases h0 : (ys.drop k).take n = []
  · exact .inl h0
  · rcases h.2 with h1 | ⟨a1, e1, hf, hc⟩
    · exact absurd (by rw [h1]; simp) h0
    · refine .inr ⟨a1.add k, by rw [hA h0, e1]; rfl, by rw [add_block]; exact hf, fun j y hj => ?_⟩
      rw [add_add]
      rw [List.getElem?_take] at hj
      split at hj
      · rw [List.getElem?_drop] at hj; exact hc _ _ hj
      · cases hj
theorem flat_len {sz : Nat} : ∀ {rows : List (List AV)}, (∀ r ∈ rows, r.length = sz) → rows.flatten.length = rows.length * sz
  | [], _ => by simp
  | r :: rs, h => by
    simp only [List.flatten_cons, List.length_append, List.length_cons]
    rw [h r (by simp), flat_len (fun x hx => h x (by simp [hx])), Nat.add_mul, Nat.one_mul, Nat.add_comm]
theorem flat_drop {sz : Nat} : ∀ {rows : List (List AV)} (k : Nat), (∀ r ∈ rows, r.length = sz) → (rows.drop k).flatten = rows.flatten.drop (k * sz)
  | rows, 0, _ => by simp
  | [], k + 1, _ => by simp
  | r :: rs, k + 1, h => by
    have hr := h r (by simp)
    rw [List.drop_succ_cons, flat_drop k (fun x hx => h x (by simp [hx])), List.flatten_cons, Nat.add_mul, Nat.one_mul, Nat.add_comm, List.drop_append, hr]
    simp [List.drop_eq_nil_of_le, hr]
theorem flat_take {sz : Nat} : ∀ {rows : List (List AV)} (k : Nat), (∀ r ∈ rows, r.length = sz) → (rows.take k).flatten = rows.flatten.take (k * sz)
  | rows, 0, _ => by simp
  | [], k + 1, _ => by simp
  | r :: rs, k + 1, h => by
    have hr := h r (by simp)
    rw [List.take_succ_cons, List.flatten_cons, flat_take k (fun x hx => h x (by simp [hx])), List.flatten_cons, Nat.add_mul, Nat.one_mul, Nat.add_comm, ← hr, List.take_length_add_append]
theorem flat_get {sz i : Nat} {rows : List (List AV)} {r : List AV} (h : ∀ r ∈ rows, r.length = sz) (hr : rows[i]? = some r) : r = (rows.flatten.drop (i * sz)).take sz := by
  rw [← flat_drop i h]
  have hi : i < rows.length := by rcases Nat.lt_or_ge i rows.length with h' | h'; exact h'; rw [List.getElem?_eq_none h'] at hr; cases hr
  rw [List.drop_eq_getElem_cons hi]
  have e : rows[i] = r := by rw [List.getElem?_eq_getElem hi] at hr; exact Option.some.inj hr
  rw [e, List.flatten_cons, List.take_left' (h r (List.mem_of_getElem? hr))]
theorem op_indexAddr (hH : HRw w F B H) (hρ : ∀ x, VR w (Forb F B) B (ρ x) (a.eval x)) {o : Oper} {t : TypeId} {y i : Operand} (ho : o.op = .indexAddr t y i) {r : Res} (h : aop P H ρ o = some r) :
    ∃ x, r = .val x ∧ ValOk P w F B a o x := by
  simp only [aop, ho] at h
  have hy := hρ y
  split at h
  · rename_i e n hu hn
    obtain ⟨k, hk⟩ := aint_at (hρ i) hn
    split at h <;> try (cases h; done)
    rename_i h0
    split at h
    · rename_i sz rows s e1 hs
      rw [e1] at hy
      split at h <;> try (cases h; done)
      rename_i hss
      simp only [Bool.and_eq_true, decide_eq_true_eq] at hss
      obtain ⟨rfl, hpos⟩ := hss
      obtain ⟨r1, hr, rfl⟩ := Option.map_eq_some_iff.1 h
      simp only [VR] at hy
      obtain ⟨A, cap, ys, hv, hcap, hrows, hvr, hM⟩ := hy
      have hlt : n.toNat < rows.length := by rcases Nat.lt_or_ge n.toNat rows.length with h' | h'; exact h'; rw [List.getElem?_eq_none h'] at hr; cases hr
      have hrl := hrows r1 (List.mem_of_getElem? hr)
      have hflat := VRR.flat.1 hvr
      have hA : ∃ a0, A = some a0 := by
        rcases hM.2 with h1 | ⟨a0, e0, _⟩
        · have h2 := hflat.length
          rw [flat_len hrows, h1] at h2
          have := Nat.mul_le_mul (Nat.succ_le_of_lt (Nat.lt_of_le_of_lt (Nat.zero_le _) hlt)) hpos
          simp at h2
          omega
        · exact ⟨a0, e0⟩
      obtain ⟨a0, rfl⟩ := hA
      refine ⟨_, rfl, .pointer (some (a0.add (n.toNat * s))), ?_, ?_⟩
      · simp only [execOp, ho, Instr.indexAt, hk, run_asInt, hv, Sem.run_bind, run_under hu, Result.andThen_ok, Sem.run_pure]
        rw [Sem.run_ite, if_pos ⟨h0, by omega⟩]
        simp only [Sem.run_bind, run_szOf hs, Result.andThen_ok, Sem.run_pure]
      · simp only [VR]
        refine ⟨_, (ys.drop (n.toNat * s)).take s, rfl, ?_, hM.sub _ _ (fun _ => rfl)⟩
        rw [flat_get hrows hr]
        exact VRL.take _ (VRL.drop _ hflat)
    · rename_i b o1 len sz ver s e1 hs
      rw [e1] at hy
      split at h <;> try (cases h; done)
      rename_i blk hb
      split at h <;> try (cases h; done)
      rename_i hc
      simp only [Bool.and_eq_true, decide_eq_true_eq] at hc
      obtain ⟨hss, hlt⟩ := hc
      cases h
      obtain ⟨g, cap, c, hv, hB, hcap, _, _⟩ := own_at hH hy hb
      refine ⟨_, rfl, .pointer (some ⟨g, (o1 + n.toNat) * sz, none⟩), ?_, ?_⟩
      · simp only [execOp, ho, Instr.indexAt, hk, run_asInt, hv, Sem.run_bind, run_under hu, Result.andThen_ok, Sem.run_pure]
        rw [Sem.run_ite, if_pos ⟨h0, by omega⟩]
        simp only [Sem.run_bind, run_szOf hs, Result.andThen_ok, Sem.run_pure, addr_add, hss, Nat.add_mul]
      · simp only [VR]
        exact ⟨_, g, ver, c, rfl, hB, Nat.le_refl _, fun _ => rfl⟩
    · cases h
  · rename_i len e n hu hn
    obtain ⟨k, hk⟩ := aint_at (hρ i) hn
    split at h <;> try (cases h; done)
    rename_i hc
    simp only [Bool.and_eq_true, decide_eq_true_eq] at hc
    split at h
    · rename_i b off ver s e1 hs
      rw [e1] at hy
      split at h <;> try (cases h; done)
      rename_i blk hb
      cases h
      obtain ⟨g, c, hv, hB, _⟩ := ptr_at hH hy hb
      refine ⟨_, rfl, .pointer (some ⟨g, off + n.toNat * s, none⟩), ?_, ?_⟩
      · simp only [execOp, ho, Instr.indexAt, hk, run_asInt, hv, Sem.run_bind, run_under hu, Result.andThen_ok, Sem.run_pure, Instr.sureAddr]
        rw [Sem.run_ite, if_pos ⟨hc.1, hc.2⟩]
        simp only [Sem.run_bind, run_szOf hs, Result.andThen_ok, Sem.run_pure, addr_add]
      · simp only [VR]
        exact ⟨_, g, ver, c, rfl, hB, Nat.le_refl _, fun _ => rfl⟩
    · rename_i cs s e1 hs
      rw [e1] at hy
      split at h <;> try (cases h; done)
      rename_i hle
      cases h
      simp only [VR] at hy
      obtain ⟨a0, ys, hv, hys, hM⟩ := hy
      refine ⟨_, rfl, .pointer (some (a0.add (n.toNat * s))), ?_, ?_⟩
      · simp only [execOp, ho, Instr.indexAt, hk, run_asInt, hv, Sem.run_bind, run_under hu, Result.andThen_ok, Sem.run_pure, Instr.sureAddr]
        rw [Sem.run_ite, if_pos ⟨hc.1, hc.2⟩]
        simp only [Sem.run_bind, run_szOf hs, Result.andThen_ok, Sem.run_pure]
      · simp only [VR]
        have hl := hys.length
        refine ⟨_, ys.drop (n.toNat * s), rfl, VRL.drop _ hys, ?_⟩
        have := hM.sub (n.toNat * s) (ys.length) (A' := some (a0.add (n.toNat * s))) (fun _ => rfl)
        rwa [List.take_of_length_le (by simp)] at this
    · cases h
  · cases h
theorem op_index (hρ : ∀ x, VR w (Forb F B) B (ρ x) (a.eval x)) {o : Oper} {t : TypeId} {y i : Operand} (ho : o.op = .index t y i) {r : Res} (h : aop P H ρ o = some r) :
    ∃ x, r = .val x ∧ ValOk P w F B a o x := by
  simp only [aop, ho] at h
  have hy := hρ y
  split at h
  · rename_i len e n cs hu hn e1
    rw [e1] at hy
    obtain ⟨k, hk⟩ := aint_at (hρ i) hn
    split at h <;> try (cases h; done)
    rename_i hc
    simp only [Bool.and_eq_true, decide_eq_true_eq] at hc
    split at h <;> try (cases h; done)
    rename_i s hs
    obtain ⟨x, hx, rfl⟩ := val_map (α := Unit) (o := o) h
    simp only [VR] at hy
    obtain ⟨c, hv, hcs⟩ := hy
    obtain ⟨v, hrun, hvr⟩ := rd_part (P := P) hcs hx
    refine ⟨x, rfl, v, ?_, hvr⟩
    simp only [execOp, ho, Instr.index, hk, run_asInt, hv, Sem.run_bind, run_under hu, Result.andThen_ok]
    rw [Sem.run_ite, if_pos ⟨hc.1, hc.2⟩]
    simp only [Sem.run_bind, run_szOf hs, Result.andThen_ok, hrun, Sem.run_pure]
  · exact ValOk.of_sop hρ h
end
end Go.Proofs.YtpgipdajinkdgaaGreatA

namespace Go.Proofs.YtpgipdajinkdgaaGreatA
open Go Go.RowKit
set_option linter.all false
set_option linter.unusedSectionVars false
set_option linter.constructorNameAsVariable false
set_option linter.unusedVariables false
set_option linter.unusedSimpArgs false
section
variable {P : Program} {w : World} {F : Nat → Prop} {B : BM} {H : List Blk} {a : Act} {ρ : Operand → AV}
theorem run_bound {k : IntKind} {n : Int} {y : Nat} {code : BoundsCode} (h : 0 ≤ n ∧ n ≤ y) : (Instr.sliceBound (.int k n) y code).run P w = .ok n.toNat w := by
  simp only [Instr.sliceBound, Sem.run_bind, run_asInt, Result.andThen_ok]
  rw [Sem.run_ite, if_pos h]
  rfl
theorem bnd_at (hρ : ∀ x, VR w (Forb F B) B (ρ x) (a.eval x)) {x : Option Operand} {d top n : Nat} (h : bnd (x.map ρ) d top = some n) :
    (x = none ∧ n = d) ∨ ∃ y k m, x = some y ∧ a.eval y = .int k m ∧ 0 ≤ m ∧ m ≤ top ∧ n = m.toNat := by
  cases x with
  | none => simp only [Option.map_none, bnd, Option.some.injEq] at h; exact .inl ⟨rfl, h.symm⟩
  | some y =>
    simp only [Option.map_some, bnd] at h
    split at h <;> try (cases h; done)
    rename_i m hm
    split at h <;> try (cases h; done)
    rename_i hc
    cases h
    obtain ⟨k, hk⟩ := aint_at (hρ y) hm
    exact .inr ⟨y, k, m, rfl, hk, hc.1, hc.2, rfl⟩
theorem bounds2 (hρ : ∀ x, VR w (Forb F B) B (ρ x) (a.eval x)) {lo hi : Option Operand} {len cap h l : Nat} {isS : Bool} (hl : len ≤ cap) (hh : bnd (hi.map ρ) len len = some h) (hlo : bnd (lo.map ρ) 0 h = some l) :
    (Instr.sliceBounds isS len cap (lo.map a.eval) (hi.map a.eval) none).run P w = .ok (l, h, cap) w ∧ l ≤ h ∧ h ≤ len := by
  unfold Instr.sliceBounds
  rcases bnd_at hρ hh with ⟨rfl, rfl⟩ | ⟨y, k, m, rfl, hy, h0, h1, rfl⟩ <;> rcases bnd_at hρ hlo with ⟨rfl, rfl⟩ | ⟨y', k', m', rfl, hy', h0', h1', rfl⟩
  · exact ⟨rfl, Nat.zero_le _, Nat.le_refl _⟩
  · refine ⟨?_, by omega, Nat.le_refl _⟩
    simp only [Option.map_none, Option.map_some, hy', Sem.run_bind, Sem.run_pure, Result.andThen_ok]
    rw [run_bound ⟨h0', h1'⟩]
    rfl
  · refine ⟨?_, Nat.zero_le _, by omega⟩
    simp only [Option.map_none, Option.map_some, hy, Sem.run_bind, Sem.run_pure, Result.andThen_ok]
    rw [run_bound ⟨h0, by omega⟩]
    rfl
  · refine ⟨?_, by omega, by omega⟩
    simp only [Option.map_none, Option.map_some, hy, hy', Sem.run_bind, Sem.run_pure, Result.andThen_ok]
    rw [run_bound ⟨h0, by omega⟩]
    simp only [Result.andThen_ok]
    rw [run_bound ⟨h0', h1'⟩]
    rfl
theorem bounds3 (hρ : ∀ x, VR w (Forb F B) B (ρ x) (a.eval x)) {lo hi : Option Operand} {m : Operand} {len cap d : Nat} (hm : aint (ρ m) = some 0) (hh : bnd (hi.map ρ) d 0 = some 0) (hs : hi.isSome = true) (hlo : bnd (lo.map ρ) 0 0 = some 0) :
    (Instr.sliceBounds true len cap (lo.map a.eval) (hi.map a.eval) (some (a.eval m))).run P w = .ok (0, 0, 0) w := by
  obtain ⟨km, hkm⟩ := aint_at (hρ m) hm
  have bz : ∀ (k : IntKind) (y : Nat) (c : BoundsCode), (Instr.sliceBound (.int k 0) y c).run P w = .ok 0 w := fun k y c => run_bound (n := 0) ⟨Int.le_refl _, by omega⟩
  unfold Instr.sliceBounds
  rcases bnd_at hρ hh with ⟨rfl, rfl⟩ | ⟨y, k, m', rfl, hy, h0, h1, e1⟩
  · cases hs
  · have : m' = 0 := by omega
    subst this
    rcases bnd_at hρ hlo with ⟨rfl, _⟩ | ⟨y', k', m', rfl, hy', h0', h1', e1'⟩
    · simp only [Option.map_some, Option.map_none, hkm, hy, Sem.run_bind, Sem.run_pure, Result.andThen_ok, bz]
    · have : m' = 0 := by omega
      subst this
      simp only [Option.map_some, hkm, hy, hy', Sem.run_bind, Sem.run_pure, Result.andThen_ok, bz]
theorem VR.empty {Fb : Nat → Prop} {s : Nat} {A : Option Addr} {cap : Nat} : VR w Fb B (.lst s []) (.slice A 0 cap) := by
  simp only [VR]
  exact ⟨A, cap, [], rfl, Nat.zero_le _, (fun _ h => by cases h), by simp only [VRR], (fun _ h => by cases h), .inl rfl⟩
theorem mkL_VR {w : World} {B : BM} {Fb : Nat → Prop} {s sz : Nat} {R : List (List AV)} {v : Value} (h : VR w Fb B (.lst s R) v) (hs : s = sz ∨ R = []) : VR w Fb B (mkL sz R) v := by
  cases R with
  | nil =>
    simp only [VR] at h
    obtain ⟨A, cap, ys, rfl, _⟩ := h
    exact VR.empty
  | cons r R => rcases hs with rfl | hs; exact h; cases hs
theorem szl_at {t : TypeId} (h : szl P t = true) : ∃ e s, P.underlying t = some (.slice e) ∧ szOf P e = some s := by
  unfold szl at h
  split at h
  · rename_i e he
    obtain ⟨s, hs⟩ := Option.isSome_iff_exists.1 h
    exact ⟨e, s, he, hs⟩
  · cases h
def AliOk (P : Program) (w : World) (F : Nat → Prop) (B : BM) (H : List Blk) (a : Act) (o : Oper) (x : AV) (blk : Blk) : Prop :=
  ∃ v b g ver c blkb, (execOp a.eval o).run P w = .ok (.value v) w ∧ B b = some (g, ver, c) ∧ H[b]? = some blkb ∧ blkb.kind = .app ∧ blk.kind = .ali ∧ blk.ver = 0 ∧ blk.cells.length ≤ blkb.cells.length ∧ BRelA w (Forb F B) B blk g ∧ (∀ w2 Fb B', B' H.length = some (g, 0, none) → VR w2 Fb B' x v)
theorem op_ali3 (hH : HRw w F B H) (hρ : ∀ x, VR w (Forb F B) B (ρ x) (a.eval x)) {o : Oper} {t : TypeId} {y m : Operand} {lo hi : Option Operand} (ho : o.op = .slice t y lo hi (some m)) {b o1 len sz ver : Nat} (e1 : ρ y = .own b o1 len sz ver) {r : Res}
    (h : ali3 P H t b o1 len sz ver (aint (ρ m)) (hi.map ρ) lo.isSome = some r) : ∃ x blk, r = .new x blk ∧ AliOk P w F B H a o x blk := by
  unfold ali3 at h
  split at h <;> try (cases h; done)
  rename_i e n hv blk hu hm hhi hb
  split at h <;> try (cases h; done)
  rename_i n2 s hn2 hs
  split at h <;> try (cases h; done)
  rename_i hc
  simp only [Bool.and_eq_true, decide_eq_true_eq, beq_iff_eq, Bool.not_eq_true'] at hc
  obtain ⟨⟨⟨⟨⟨⟨hlo, ho1⟩, hn⟩, hnn⟩, hpos⟩, hsz⟩, hfull⟩ := hc
  subst ho1 hn hnn hsz
  cases h
  have hy := hρ y
  rw [e1] at hy
  obtain ⟨g, cap, c, hvy, hB, hcap, _, hbr⟩ := own_atA hH hy hb
  obtain ⟨hk, hver, hkd⟩ := appAt_some hb
  have hlo' : lo = none := by cases lo with | none => rfl | some _ => cases hlo
  subst hlo'
  obtain ⟨hop, rfl, rfl⟩ : ∃ hop, hi = some hop ∧ ρ hop = hv := by
    cases hi with
    | none => cases hhi
    | some hop => exact ⟨hop, rfl, by simpa using hhi⟩
  obtain ⟨km, hkm⟩ := aint_at (hρ m) hm
  obtain ⟨kh, hkh⟩ := aint_at (hρ hop) hn2
  have hbd : (Instr.sliceBounds true len cap none (some (a.eval hop)) (some (a.eval m))).run P w = .ok (0, len, len) w := by
    unfold Instr.sliceBounds
    simp only [hkm, hkh, Sem.run_bind, Sem.run_pure, Result.andThen_ok]
    rw [run_bound ⟨by omega, by omega⟩]
    simp only [Result.andThen_ok, Int.toNat_natCast]
    rw [run_bound ⟨by omega, by omega⟩]
    simp only [Result.andThen_ok, Int.toNat_natCast]
  have hz : ¬ len = 0 := by omega
  refine ⟨_, _, rfl, .slice (some ⟨g, 0, none⟩) len len, b, g, ver, c, blk, ?_, hB, hk, hkd, rfl, rfl, Nat.le_refl _, hbr.ali, fun w2 Fb B' hB' => ?_⟩
  · rw [Nat.zero_mul] at hvy
    simp only [execOp, ho, Instr.sliceAt, Instr.slice, Sem.run_bind, run_under hu, Result.andThen_ok, hvy, Option.map_some, Option.map_none, hbd, run_szOf hs, Sem.run_pure, hz, if_false, Nat.sub_zero, Nat.zero_mul]
    rfl
  · simp only [VR]
    exact ⟨_, len, g, 0, none, rfl, hB', Nat.le_refl _, fun _ => ⟨by simp, Nat.le_refl _, fun n hn => by cases hn⟩⟩
theorem op_slice (hH : HRw w F B H) (hρ : ∀ x, VR w (Forb F B) B (ρ x) (a.eval x)) {o : Oper} {t : TypeId} {y : Operand} {lo hi mx : Option Operand} (ho : o.op = .slice t y lo hi mx) {r : Res} (h : aop P H ρ o = some r) :
    (∃ x, r = .val x ∧ ValOk P w F B a o x) ∨ ∃ x blk, r = .new x blk ∧ AliOk P w F B H a o x blk := by
  simp only [aop, ho] at h
  have hy := hρ y
  split at h
  · rename_i sz rows e1
    rw [e1] at hy
    simp only [VR] at hy
    obtain ⟨A, cap, ys, hv, hcap, hrows, hvr, hM⟩ := hy
    split at h
    · rename_i m
      split at h <;> try (cases h; done)
      rename_i h1 h2 h3
      split at h <;> try (cases h; done)
      rename_i hc
      cases h
      simp only [Bool.and_eq_true] at hc
      obtain ⟨hs, hu⟩ := hc
      obtain ⟨e, s, hu, hsz⟩ := szl_at hu
      refine .inl ⟨_, rfl, .slice A 0 0, ?_, by simp only [VR]; exact ⟨A, rfl⟩⟩
      simp only [execOp, ho, Instr.sliceAt, Instr.slice, Sem.run_bind, run_under hu, Result.andThen_ok, hv, Option.map_some, bounds3 hρ h1 h2 hs h3, run_szOf hsz, if_true, Nat.sub_self, Sem.run_pure]
    · split at h <;> try (cases h; done)
      rename_i e h' hu hh
      split at h <;> try (cases h; done)
      rename_i l s hl hs
      split at h <;> try (cases h; done)
      rename_i hss0
      have hss : s = sz ∨ rows = [] := by simpa using hss0
      have hrows : ∀ r ∈ rows, r.length = s := by
        rcases hss with e | e
        · subst e; exact hrows
        · subst e; intro r hr; cases hr
      cases h
      obtain ⟨hb, hlh, hhl⟩ := bounds2 (P := P) (isS := true) hρ hcap hh hl
      refine .inl ⟨_, rfl, .slice (if cap = l then A else A.map (·.add (l * s))) (h' - l) (cap - l), ?_, ?_⟩
      · simp only [execOp, ho, Instr.sliceAt, Instr.slice, Sem.run_bind, run_under hu, Result.andThen_ok, hv, Option.map_none, hb, run_szOf hs, Sem.run_pure]
      · refine mkL_VR (s := s) ?_ (hss.imp id (fun e => by rw [e]; simp))
        simp only [VR]
        have hlen : ((rows.take h').drop l).length = h' - l := by simp; omega
        have hf := VRR.flat.1 hvr
        have hy1 : (ys.take (h' * s)).drop (l * s) = (ys.drop (l * s)).take ((h' - l) * s) := by
          rw [List.drop_take, ← Nat.sub_mul]
        refine ⟨_, cap - l, (ys.drop (l * s)).take ((h' - l) * s), by rw [hlen], by rw [hlen]; omega, fun r hr => hrows r (List.mem_of_mem_take (List.mem_of_mem_drop hr)), ?_, hM.sub _ _ (fun hne => ?_)⟩
        · rw [VRR.flat, flat_drop l (fun r hr => hrows r (List.mem_of_mem_take hr)), flat_take h' hrows, ← hy1]
          exact VRL.drop _ (VRL.take _ hf)
        · rw [if_neg]
          intro e
          apply hne
          have : h' - l = 0 := by omega
          rw [this]
          simp
  · rename_i b o1 len sz ver e1
    rw [e1] at hy
    split at h
    · rename_i m
      split at h
      rotate_left
      · exact .inr (op_ali3 hH hρ ho e1 h)
      rename_i h1 h2 h3
      split at h <;> try (cases h; done)
      rename_i hc
      cases h
      simp only [Bool.and_eq_true] at hc
      obtain ⟨hs, hu⟩ := hc
      obtain ⟨e, s, hu, hsz⟩ := szl_at hu
      simp only [VR] at hy
      obtain ⟨A, cap, g, v', c, hv, _⟩ := hy
      refine .inl ⟨_, rfl, .slice A 0 0, ?_, by simp only [VR]; exact ⟨A, rfl⟩⟩
      simp only [execOp, ho, Instr.sliceAt, Instr.slice, Sem.run_bind, run_under hu, Result.andThen_ok, hv, Option.map_some, bounds3 hρ h1 h2 hs h3, run_szOf hsz, if_true, Nat.sub_self, Sem.run_pure]
    · split at h <;> try (cases h; done)
      rename_i e h' blk hu hh hb
      split at h <;> try (cases h; done)
      rename_i l s hl hs
      split at h <;> try (cases h; done)
      rename_i hss
      subst hss
      cases h
      obtain ⟨g, cap, c, hv, hB, hcap, hcc, _⟩ := own_at hH hy hb
      obtain ⟨hb2, hlh, hhl⟩ := bounds2 (P := P) (isS := true) hρ hcap hh hl
      refine .inl ⟨_, rfl, .slice (if cap = l then some ⟨g, o1 * s, none⟩ else (some (⟨g, o1 * s, none⟩ : Addr)).map (·.add (l * s))) (h' - l) (cap - l), ?_, ?_⟩
      · simp only [execOp, ho, Instr.sliceAt, Instr.slice, Sem.run_bind, run_under hu, Result.andThen_ok, hv, Option.map_none, hb2, run_szOf hs, Sem.run_pure]
      · by_cases hlt : l = h' ∧ l ≠ 0
        · rw [if_pos (by simpa using hlt)]
          obtain ⟨rfl, _⟩ := hlt
          rw [Nat.sub_self]
          exact VR.empty
        · rw [if_neg (by simpa using hlt)]
          simp only [VR]
          refine ⟨_, cap - l, g, ver, c, rfl, hB, Nat.le_refl _, fun _ => ⟨?_, by omega, fun n hn => by have := hcc n hn; omega⟩⟩
          by_cases h0 : l = 0
          · subst h0
            split <;> simp [Addr.add]
          · rw [if_neg (by omega)]
            simp only [Option.map_some, addr_add, Nat.add_mul]
  · rename_i b off ver e1
    rw [e1] at hy
    split at h <;> try (cases h; done)
    rename_i n e blk hu hb
    split at h <;> try (cases h; done)
    rename_i h' s hh hs
    split at h <;> try (cases h; done)
    rename_i l hl
    split at h <;> try (cases h; done)
    rename_i hc
    simp only [Bool.and_eq_true, decide_eq_true_eq, beq_iff_eq, Bool.not_eq_true'] at hc
    obtain ⟨⟨hpos, hmod⟩, hgrow⟩ := hc
    cases h
    obtain ⟨g, c, hv, hB, hbr⟩ := ptr_at hH hy hb
    obtain ⟨hb2, hlh, hhl⟩ := bounds2 (P := P) (isS := false) hρ (Nat.le_refl n) hh hl
    refine .inl ⟨_, rfl, .slice (some (if n = l then ⟨g, off, none⟩ else (⟨g, off, none⟩ : Addr).add (l * s))) (h' - l) (n - l), ?_, ?_⟩
    · simp only [execOp, ho, Instr.sliceAt, Instr.sureAddr, Sem.run_bind, run_under hu, Result.andThen_ok, hv, Option.map_none, hb2, run_szOf hs, Sem.run_pure]
    · by_cases hlt : l = h'
      · rw [if_pos hlt]
        subst hlt
        rw [Nat.sub_self]
        exact VR.empty
      · rw [if_neg hlt]
        simp only [VR]
        refine ⟨_, n - l, g, ver, c, rfl, hB, Nat.le_refl _, fun _ => ⟨?_, by omega, fun m hm => ?_⟩⟩
        · rw [if_neg (by omega), addr_add, Nat.add_mul]
          have := Nat.div_add_mod off s
          rw [hmod, Nat.add_zero, Nat.mul_comm] at this
          rw [this]
        · obtain ⟨_, _, _, _, _, _, _, _, hg⟩ := hbr
          rw [(hg hgrow).1] at hm
          cases hm
  · exact .inl (ValOk.of_sop hρ h)
end
end Go.Proofs.YtpgipdajinkdgaaGreatA

namespace Go.Proofs.YtpgipdajinkdgaaGreatA
open Go Go.RowKit
set_option linter.all false
set_option linter.unusedSectionVars false
set_option linter.constructorNameAsVariable false
set_option linter.unusedVariables false
set_option linter.unusedSimpArgs false
section
variable {P : Program} {w : World} {F : Nat → Prop} {B : BM} {H : List Blk} {a : Act} {ρ : Operand → AV}
theorem slice_at {Fb : Nat → Prop} {x : AV} {v : Value} {n : Nat} (h : VR w Fb B x v) (hn : alen x = some n) : ∃ A c, v = .slice A n c := by
  cases x <;> simp only [alen] at hn <;> try (cases hn; done)
  · simp only [VR] at h
    cases hn
    obtain ⟨A, cap, _, hv, _⟩ := h
    exact ⟨A, cap, hv⟩
  · simp only [VR] at h
    cases hn
    obtain ⟨A, cap, _, _, _, hv, _⟩ := h
    exact ⟨A, cap, hv⟩
  · simp only [VR] at h
    cases hn
    obtain ⟨A, hv⟩ := h
    exact ⟨A, 0, hv⟩
theorem mapAt_some {b ver : Nat} {blk : Blk} {kvs : List (Value × AV)} (h : mapAt H b ver = some (blk, kvs)) : H[b]? = some blk ∧ blk.ver = ver ∧ blk.kind = .map kvs := by
  unfold mapAt at h
  split at h <;> try (cases h; done)
  rename_i bk hk
  split at h <;> try (cases h; done)
  rename_i l hkd
  cases hb : Nat.beq bk.ver ver
  · rw [hb] at h; cases h
  · rw [hb] at h
    cases h
    exact ⟨hk, Nat.eq_of_beq_eq_true hb, hkd⟩
theorem map_at (hH : HRw w F B H) {b ver : Nat} {v : Value} {blk : Blk} {kvs : List (Value × AV)} (h : VR w (Forb F B) B (.mp b ver) v) (hm : mapAt H b ver = some (blk, kvs)) :
    ∃ g es, v = .map (some g) ∧ (∃ c, B b = some (g, ver, c)) ∧ H[b]? = some blk ∧ w.heap[g]? = some (.map es kvs.length) ∧ es.size = kvs.length ∧
      ∀ (i : Nat) (e : MapEntry), es[i]? = some e → e.born = i ∧ ∃ k x, kvs[i]? = some (k, x) ∧ e.key = k ∧ VR w (Forb F B) B x e.val := by
  obtain ⟨hk, hv, hkd⟩ := mapAt_some hm
  simp only [VR] at h
  obtain ⟨r, g, v', c, rfl, e, _, hx⟩ := h
  obtain ⟨h1, h2⟩ := hH b g v' c blk e hk
  have hv' : v' = ver := by rw [h1, hv]
  subst hv'
  cases hx rfl
  simp only [BRel, hkd] at h2
  obtain ⟨es, p1, p2, p3⟩ := h2
  exact ⟨r, es, rfl, ⟨c, e⟩, hk, p1, p2, p3⟩
theorem run_getMap {g : Nat} {es : Array MapEntry} {n : Nat} (h : w.heap[g]? = some (.map es n)) : (getObj g).run P w = .ok (.map es n) w := by
  simp only [getObj, Sem.run, h]
theorem run_call {o : Oper} {c : Call} {b : Builtin} (ho : o.op = .call c) (hc : c.callee = .builtin b) :
    ∃ cs, execOp a.eval o = builtin b c.argTypes o.type cs (c.args.map a.eval) := by
  simp only [execOp, ho, resolve, hc, invoke, pure_bind]
  exact ⟨_, rfl⟩
theorem op_len (hH : HRw w F B H) (hρ : ∀ x, VR w (Forb F B) B (ρ x) (a.eval x)) {o : Oper} {c : Call} (ho : o.op = .call c) (hc : c.callee = .builtin .len) {r : Res} (h : aop P H ρ o = some r) :
    ∃ x, r = .val x ∧ ValOk P w F B a o x := by
  simp only [aop, ho, hc] at h
  split at h <;> try (cases h; done)
  rename_i x t hx ht
  split at h
  · rename_i n e hn hu
    cases h
    obtain ⟨A, cap, hv⟩ := slice_at (hρ x) hn
    refine ⟨_, rfl, .int .i64 n, ?_, by simp only [VR]⟩
    have h0 : (c.args.map a.eval)[0]? = some (.slice A n cap) := by rw [Array.getElem?_map, hx]; simp [hv]
    obtain ⟨cs, hcs⟩ := run_call (a := a) ho hc
    rw [hcs]
    simp only [builtin, Builtin.len_, ht, h0, Sem.run_bind, run_under hu, Result.andThen_ok, Sem.run_pure, goInt]
  · split at h
    · rename_i b ver k e e1 hu
      obtain ⟨q, hq, rfl⟩ := Option.map_eq_some_iff.1 h
      obtain ⟨blk, kvs⟩ := q
      have hx' := hρ x
      rw [e1] at hx'
      obtain ⟨g, es, hv, _, _, hg, hsz, _⟩ := map_at hH hx' hq
      refine ⟨_, rfl, .int .i64 kvs.length, ?_, by simp only [VR]⟩
      have h0 : (c.args.map a.eval)[0]? = some (.map (some g)) := by rw [Array.getElem?_map, hx]; simp [hv]
      obtain ⟨cs, hcs⟩ := run_call (a := a) ho hc
      rw [hcs]
      simp only [builtin, Builtin.len_, ht, h0, Sem.run_bind, run_under hu, Result.andThen_ok]
      rw [run_getMap hg]
      simp only [Result.andThen_ok, Sem.run_pure, goInt, hsz]
    · exact ValOk.of_sop hρ h
theorem some_at (hH : HRw w F B H) {x : AV} {v : Value} (h : VR w (Forb F B) B x v) (hs : some_ H x = true) :
    (kindOf x = 1 → ∃ a n c, v = .slice (some a) n c) ∧ (kindOf x = 2 → ∃ a, v = .pointer (some a)) ∧ (kindOf x = 3 → ∃ f c, v = .func f #[] c) := by
  cases x <;> try (simp only [some_] at hs; cases hs; done)
  case lst sz rows =>
    refine ⟨fun _ => ?_, (fun h => by cases h), (fun h => by cases h)⟩
    simp only [VR] at h
    obtain ⟨A, cap, ys, hv, _, hrows, hvr, hM⟩ := h
    rcases hM.2 with h0 | ⟨a0, e0, _⟩
    · subst h0
      have hl := (VRR.flat.1 hvr).length
      cases rows with
      | nil => simp [some_] at hs
      | cons r rs => cases r with
        | nil => simp [some_] at hs
        | cons u us => simp at hl
    · exact ⟨a0, _, _, by rw [hv, e0]⟩
  case own b o len sz ver =>
    refine ⟨fun _ => ?_, (fun h => by cases h), (fun h => by cases h)⟩
    obtain ⟨blk, hb⟩ := Option.isSome_iff_exists.1 hs
    obtain ⟨g, cap, c, hv, _⟩ := own_at hH h hb
    exact ⟨_, _, _, hv⟩
  case ptr =>
    refine ⟨(fun h => by cases h), fun _ => ?_, (fun h => by cases h)⟩
    simp only [VR] at h
    obtain ⟨a0, _, _, _, hv, _⟩ := h
    exact ⟨a0, hv⟩
  case ro =>
    refine ⟨(fun h => by cases h), fun _ => ?_, (fun h => by cases h)⟩
    simp only [VR] at h
    obtain ⟨a0, _, hv, _⟩ := h
    exact ⟨a0, hv⟩
  case fn =>
    refine ⟨(fun h => by cases h), (fun h => by cases h), fun _ => ?_⟩
    simp only [VR] at h
    obtain ⟨c, hv, _⟩ := h
    exact ⟨_, c, hv⟩
theorem nil_at {Fb : Nat → Prop} {t : TypeId} {y : AV} {u : Value} (h : VR w Fb B y u) :
    (nilKind P t y = 1 → ∃ n c e, u = .slice none n c ∧ P.underlying t = some (.slice e)) ∧ (nilKind P t y = 2 → ∃ e, u = .pointer none ∧ P.underlying t = some (.pointer e)) ∧ (nilKind P t y = 3 → ∃ p q v, u = .nilFunc ∧ P.underlying t = some (.func p q v)) ∧ nilKind P t y ≤ 3 := by
  unfold nilKind
  split
  · simp only [VR] at h
    split
    · rename_i e he
      exact ⟨fun _ => ⟨_, _, e, h, he⟩, (fun h => by cases h), (fun h => by cases h), by omega⟩
    · exact ⟨(fun h => by cases h), (fun h => by cases h), (fun h => by cases h), by omega⟩
  · simp only [VR] at h
    split
    · rename_i e he
      exact ⟨(fun h => by cases h), fun _ => ⟨e, h, he⟩, (fun h => by cases h), by omega⟩
    · exact ⟨(fun h => by cases h), (fun h => by cases h), (fun h => by cases h), by omega⟩
  · simp only [VR] at h
    split
    · rename_i p q v he
      exact ⟨(fun h => by cases h), (fun h => by cases h), fun _ => ⟨p, q, v, h, he⟩, by omega⟩
    · exact ⟨(fun h => by cases h), (fun h => by cases h), (fun h => by cases h), by omega⟩
  · exact ⟨(fun h => by cases h), (fun h => by cases h), (fun h => by cases h), by omega⟩
def Unlike (P : Program) (t : TypeId) (v u : Value) : Prop :=
  (∃ a n c n' c' e, v = .slice (some a) n c ∧ u = .slice none n' c' ∧ P.underlying t = some (.slice e)) ∨ (∃ a e, v = .pointer (some a) ∧ u = .pointer none ∧ P.underlying t = some (.pointer e)) ∨ (∃ f c p q r, v = .func f #[] c ∧ u = .nilFunc ∧ P.underlying t = some (.func p q r))
theorem Unlike.equalIn {t : TypeId} {v u : Value} (h : Unlike P t v u) (d : Nat) : (Op.equalIn (d + 1) t v u).run P w = .ok false w ∧ (Op.equalIn (d + 1) t u v).run P w = .ok false w := by
  rcases h with ⟨a, n, c, n', c', e, rfl, rfl, hu⟩ | ⟨a, e, rfl, rfl, hu⟩ | ⟨f, c, p, q, r, rfl, rfl, hu⟩ <;>
    exact ⟨by simp only [Op.equalIn, Sem.run_bind, run_under hu, Result.andThen_ok]; rfl, by simp only [Op.equalIn, Sem.run_bind, run_under hu, Result.andThen_ok]; rfl⟩
theorem Unlike.equal {t : TypeId} {v u : Value} (h : Unlike P t v u) : (Op.equal t v u).run P w = .ok false w ∧ (Op.equal t u v).run P w = .ok false w := h.equalIn 9999
theorem Unlike.run {t : TypeId} {v u : Value} (h : Unlike P t v u) {op : BinOp} {b : Bool} (hb : (match op with | .eql => some false | .neq => some true | _ => none) = some b) (x y : Operand) :
    ((do eqGuard op t x y v u; binOp op t v u).run P w = .ok (.bool b) w) ∧ ((do eqGuard op t x y u v; binOp op t u v).run P w = .ok (.bool b) w) := by
  obtain ⟨h1, h2⟩ := h.equal (w := w)
  have g1 : (eqGuard op t x y v u).run P w = .ok () w ∧ (eqGuard op t x y u v).run P w = .ok () w := by
    unfold eqGuard
    rcases h with ⟨a, n, c, n', c', e, rfl, rfl, hu⟩ | ⟨a, e, rfl, rfl, hu⟩ | ⟨f, c, p, q, r, rfl, rfl, hu⟩ <;> cases op <;> exact ⟨rfl, rfl⟩
  simp only [Sem.run_bind, g1.1, g1.2, Result.andThen_ok]
  cases op <;> simp only at hb <;> try (cases hb; done)
  all_goals
    cases hb
    rcases h with ⟨a, n, c, n', c', e, rfl, rfl, hu⟩ | ⟨a, e, rfl, rfl, hu⟩ | ⟨f, c, p, q, r, rfl, rfl, hu⟩ <;>
      (constructor <;> simp only [binOp, Sem.run_bind, h1, h2, Result.andThen_ok] <;> rfl)
theorem run_sameAddr_own {g o o' : Nat} : (sameAddr ⟨g, o, none⟩ ⟨g, o', none⟩).run P w = .ok (o == o') w := by
  have hb : ((⟨g, o, none⟩ : Addr).block == (⟨g, o', none⟩ : Addr).block) = true := by simp
  have he : ((⟨g, o, none⟩ : Addr) == ⟨g, o', none⟩) = (o == o') := by
    rw [Bool.eq_iff_iff]; simp
  unfold sameAddr
  rw [if_pos hb]
  rw [show (pure ((⟨g, o, none⟩ : Addr) == ⟨g, o', none⟩) : Sem Bool) = pure (o == o') by rw [he]]
  rfl
theorem ptrTest_run (hH : HRw w F B H) {op : BinOp} {t : TypeId} {x y : AV} {v u : Value} {b : Bool} (hx : VR w (Forb F B) B x v) (hy : VR w (Forb F B) B y u) (h : ptrTest P H op t x y = some b) (p q : Operand) :
    (do eqGuard op t p q v u; binOp op t v u : Sem Value).run P w = .ok (.bool b) w := by
  unfold ptrTest at h
  split at h <;> try (cases h; done)
  rename_i b1 o1 v1 b2 o2 v2
  split at h <;> try (cases h; done)
  rename_i hc
  simp only [Bool.and_eq_true, decide_eq_true_eq, beq_iff_eq] at hc
  obtain ⟨rfl, rfl⟩ := hc
  split at h <;> try (cases h; done)
  rename_i blk e hb hu
  split at h <;> try (cases h; done)
  rename_i n hs
  obtain ⟨g, c, rfl, hB, _⟩ := ptr_at hH hx hb
  obtain ⟨g2, c2, rfl, hB2, _⟩ := ptr_at hH hy hb
  rw [hB] at hB2
  cases hB2
  have heq : ∀ d, (Op.equalIn (d + 1) t (.pointer (some ⟨g, o1, none⟩)) (.pointer (some ⟨g, o2, none⟩))).run P w = .ok (o1 == o2) w := by
    intro d
    simp only [Op.equalIn, Sem.run_bind, run_under hu, Result.andThen_ok, run_szOf hs]
    rw [Sem.run_ite, if_pos (Nat.succ_ne_zero _)]
    exact run_sameAddr_own
  have he : (Op.equal t (.pointer (some ⟨g, o1, none⟩)) (.pointer (some ⟨g, o2, none⟩))).run P w = .ok (o1 == o2) w := heq 9999
  have hg : (eqGuard op t p q (.pointer (some ⟨g, o1, none⟩)) (.pointer (some ⟨g, o2, none⟩))).run P w = .ok () w := by
    unfold eqGuard
    cases op <;> rfl
  simp only [Sem.run_bind, hg, Result.andThen_ok]
  cases op <;> simp only at h <;> try (cases h; done)
  · cases h; simp only [binOp, Sem.run_bind, he, Result.andThen_ok]; rfl
  · cases h; simp only [binOp, Sem.run_bind, he, Result.andThen_ok]; rfl
theorem op_binOp (hH : HRw w F B H) (hρ : ∀ x, VR w (Forb F B) B (ρ x) (a.eval x)) {o : Oper} {op : BinOp} {t yt : TypeId} {x y : Operand} (ho : o.op = .binOp op t x y yt) {r : Res} (h : aop P H ρ o = some r) :
    ∃ x, r = .val x ∧ ValOk P w F B a o x := by
  simp only [aop, ho] at h
  split at h
  · rename_i b hb
    cases h
    refine ⟨_, rfl, .bool b, ?_, by simp only [VR]⟩
    unfold nilTest at hb
    split at hb <;> try (cases hb; done)
    rename_i hc
    simp only [Bool.and_eq_true, Bool.or_eq_true, bne_iff_ne, beq_iff_eq] at hc
    have key : ∀ p q : Operand, some_ H (ρ p) = true → nilKind P t (ρ q) ≠ 0 → kindOf (ρ p) = nilKind P t (ρ q) → Unlike P t (a.eval p) (a.eval q) := by
      intro p q hp hq hk
      obtain ⟨s1, s2, s3⟩ := some_at hH (hρ p) hp
      obtain ⟨n1, n2, n3, n4⟩ := nil_at (P := P) (t := t) (hρ q)
      rw [hk] at s1 s2 s3
      rcases (show nilKind P t (ρ q) = 1 ∨ nilKind P t (ρ q) = 2 ∨ nilKind P t (ρ q) = 3 by omega) with e | e | e
      · obtain ⟨a0, n, c, e1⟩ := s1 e
        obtain ⟨n', c', e', e2, e3⟩ := n1 e
        exact .inl ⟨a0, n, c, n', c', e', e1, e2, e3⟩
      · obtain ⟨a0, e1⟩ := s2 e
        obtain ⟨e', e2, e3⟩ := n2 e
        exact .inr (.inl ⟨a0, e', e1, e2, e3⟩)
      · obtain ⟨f, c, e1⟩ := s3 e
        obtain ⟨p', q', r', e2, e3⟩ := n3 e
        exact .inr (.inr ⟨f, c, p', q', r', e1, e2, e3⟩)
    simp only [execOp, ho]
    rcases hc with ⟨⟨h3, h4⟩, h5⟩ | ⟨⟨h3, h4⟩, h5⟩
    · have := ((key x y h3 h4 h5).run (w := w) hb x y).1
      rw [Sem.run_bind, this]
      rfl
    · have := ((key y x h3 h4 h5).run (w := w) hb x y).2
      rw [Sem.run_bind, this]
      rfl
  · split at h
    · rename_i b hb
      cases h
      refine ⟨_, rfl, .bool b, ?_, by simp only [VR]⟩
      have := ptrTest_run (P := P) hH (hρ x) (hρ y) hb x y
      simp only [execOp, ho]
      rw [Sem.run_bind, this]
      rfl
    · exact ValOk.of_sop hρ h
end
end Go.Proofs.YtpgipdajinkdgaaGreatA

namespace Go.Proofs.YtpgipdajinkdgaaGreatA
open Go Go.RowKit
set_option linter.all false
set_option linter.unusedSectionVars false
set_option linter.constructorNameAsVariable false
set_option linter.unusedVariables false
set_option linter.unusedSimpArgs false
section
variable {P : Program} {w : World} {F : Nat → Prop} {B : BM} {H : List Blk} {a : Act} {ρ : Operand → AV}
def NewOk (P : Program) (w : World) (F : Nat → Prop) (B : BM) (n : Nat) (a : Act) (o : Oper) (x : AV) (blk : Blk) : Prop :=
  ∃ v w' cur ys rest c, (execOp a.eval o).run P w = .ok (.value v) w' ∧ w'.os = w.os ∧ w'.tape = w.tape ∧ w'.output = w.output ∧ w.heap.size < w'.heap.size ∧ (∀ i, i < w.heap.size → w'.heap[i]? = w.heap[i]?) ∧ w'.heap[w.heap.size]? = some (.cells cur blk.elem (0, 0)) ∧
    cur.toList = ys ++ rest ∧ VRL w (Forb F B) B blk.cells ys ∧ (∀ y ∈ ys, y.oneCell' = true) ∧ (blk.grow = true → ∃ m, c = some m ∧ cur.size = m * blk.sz ∧ m ≤ maxLen) ∧ (blk.grow = false → c = none ∧ rest = []) ∧
    blk.kind = .cells ∧ blk.ver = 0 ∧ (∀ w2 Fb B', B' n = some (w.heap.size, 0, c) → VR w2 Fb B' x v)
def NewOk' (P : Program) (w : World) (F : Nat → Prop) (B : BM) (n : Nat) (a : Act) (o : Oper) (x : AV) (blk : Blk) : Prop :=
  ∃ v w' c, (execOp a.eval o).run P w = .ok (.value v) w' ∧ w'.os = w.os ∧ w'.tape = w.tape ∧ w'.output = w.output ∧ w.heap.size < w'.heap.size ∧ (∀ i, i < w.heap.size → w'.heap[i]? = w.heap[i]?) ∧
    (∀ B', Ext w B w' B' → BRel w' (Forb F B') B' blk w.heap.size c) ∧ blk.ver = 0 ∧ (∀ w2 Fb B', B' n = some (w.heap.size, 0, c) → VR w2 Fb B' x v)
theorem NewOk.any {P : Program} {w : World} {F : Nat → Prop} {B : BM} {n : Nat} {a : Act} {o : Oper} {x : AV} {blk : Blk} (h : NewOk P w F B n a o x blk) : NewOk' P w F B n a o x blk := by
  obtain ⟨v, w', cur, ys, rest, c, hrun, e1, e2, e3, hsz, hold, hnew, hl, hy, h1, hg1, hg2, hk, hver, hx⟩ := h
  exact ⟨v, w', c, hrun, e1, e2, e3, hsz, hold, fun B' hE => by
    simp only [BRel, hk]
    exact ⟨cur, ys, rest, hnew, hl, hy.ext hE, h1, hg1, hg2⟩, hver, hx⟩
theorem all_one {l : List Value} (h : l.all Value.oneCell' = true) : ∀ y ∈ l, y.oneCell' = true := by simpa using h
theorem op_alloc {o : Oper} {e : TypeId} (ho : o.op = .alloc e) {r : Res} (h : aop P H ρ o = some r) :
    ∃ x blk, r = .new x blk ∧ NewOk P w F B H.length a o x blk := by
  simp only [aop, ho] at h
  split at h <;> try (cases h; done)
  rename_i i hi
  split at h <;> try (cases h; done)
  rename_i zv hz
  split at h <;> try (cases h; done)
  rename_i h1
  cases h
  refine ⟨_, _, rfl, .pointer (some ⟨w.heap.size, 0, none⟩), w.alloc (.cells zv.cells e), zv.cells, zv.cells.toList, [], none, ?_, rfl, rfl, rfl, by simp, fun i hi => heap_alloc_old _ _ _ hi, heap_alloc_new _ _, by simp, VRL.sc _, all_one h1, (fun h => by cases h), fun _ => ⟨rfl, rfl⟩, rfl, rfl, fun w2 Fb B' hB => ?_⟩
  · simp only [execOp, ho, Instr.alloc, Sem.run_bind, run_zero hi hz, Result.andThen_ok, newVar, newRow, run_newObj, Sem.run_pure]
    rfl
  · simp only [VR]
    exact ⟨_, _, 0, none, rfl, hB, Nat.le_refl _, fun _ => rfl⟩
theorem op_box (hρ : ∀ x, VR w (Forb F B) B (ρ x) (a.eval x)) {o : Oper} {e : TypeId} {y : Operand} (ho : o.op = .box e y) {r : Res} (h : aop P H ρ o = some r) :
    ∃ x blk, r = .new x blk ∧ NewOk P w F B H.length a o x blk := by
  simp only [aop, ho] at h
  split at h <;> try (cases h; done)
  rename_i h1
  simp only [Bool.and_eq_true] at h1
  cases h
  have hc := acells_solid (hρ y) h1.1
  refine ⟨_, _, rfl, .pointer (some ⟨w.heap.size, 0, none⟩), w.alloc (.cells (a.eval y).cells e), (a.eval y).cells, (a.eval y).cells.toList, [], none, ?_, rfl, rfl, rfl, by simp, fun i hi => heap_alloc_old _ _ _ hi, heap_alloc_new _ _, by simp, hc, one_cell hc h1.2, (fun h => by cases h), fun _ => ⟨rfl, rfl⟩, rfl, rfl, fun w2 Fb B' hB => ?_⟩
  · simp only [execOp, ho, Instr.box, Sem.run_bind, Result.andThen_ok, newVar, newRow, run_newObj, Sem.run_pure]
    rfl
  · simp only [VR]
    exact ⟨_, _, 0, none, rfl, hB, Nat.le_refl _, fun _ => rfl⟩
theorem zeros_list (z : Array Value) (hz : 0 < z.size) : ∀ n : Nat, ((Array.range (n * z.size)).map (z[· % z.size]!)).toList = (List.replicate n z.toList).flatten
  | 0 => by simp
  | n + 1 => by
    have ih := zeros_list z hz n
    rw [List.replicate_succ', List.flatten_append, ← ih]
    simp only [Array.toList_map, Array.toList_range, List.flatten_cons, List.flatten_nil, List.append_nil]
    rw [Nat.add_mul, Nat.one_mul, List.range_add, List.map_append, List.map_map]
    congr 1
    apply List.ext_getElem
    · simp
    · intro i h1 h2
      have hi : i < z.size := by simpa using h1
      simp only [List.getElem_map, List.getElem_range, Function.comp_apply, Array.getElem_toList]
      rw [Nat.mul_add_mod_self_right, Nat.mod_eq_of_lt hi, getElem!_pos z i hi]
theorem zeros_av (z : Array Value) (n : Nat) : (List.replicate n (z.toList.map AV.sc)).flatten = ((List.replicate n z.toList).flatten).map AV.sc := by
  rw [List.map_flatten, List.map_replicate]
theorem zeros_one {z : Array Value} (h : z.toList.all Value.oneCell' = true) (n : Nat) : ∀ y ∈ (List.replicate n z.toList).flatten, y.oneCell' = true := by
  intro y hy
  obtain ⟨l, hl, hy⟩ := List.mem_flatten.1 hy
  rw [(List.mem_replicate.1 hl).2] at hy
  exact all_one h y hy
theorem op_buildSlice (hρ : ∀ x, VR w (Forb F B) B (ρ x) (a.eval x)) {o : Oper} {t : TypeId} {len : Nat} {parts : Array (Nat × Operand)} (ho : o.op = .buildSlice t len parts) {r : Res} (h : aop P H ρ o = some r) :
    ∃ x blk, r = .new x blk ∧ NewOk P w F B H.length a o x blk := by
  simp only [aop, ho] at h
  split at h <;> try (cases h; done)
  rename_i e hu
  split at h <;> try (cases h; done)
  rename_i i hi
  split at h <;> try (cases h; done)
  rename_i zv hz
  split at h <;> try (cases h; done)
  rename_i hc
  simp only [Bool.and_eq_true, decide_eq_true_eq, beq_iff_eq] at hc
  obtain ⟨⟨⟨hpos, hzs⟩, hone⟩, hbig⟩ := hc
  split at h <;> try (cases h; done)
  rename_i cs hcs
  split at h <;> try (cases h; done)
  rename_i h1
  cases h
  have hsz : szOf P e = some i.size := by unfold szOf; rw [hi]; rfl
  have hz0 : ((Array.range (len * i.size)).map (zv.cells[· % zv.cells.size]!)).toList = (List.replicate len zv.cells.toList).flatten := by
    have := zeros_list zv.cells (by omega) len
    rwa [hzs] at this ⊢
  have hv0 : VRL w (Forb F B) B (List.replicate len (zv.cells.toList.map AV.sc)).flatten ((Array.range (len * i.size)).map (zv.cells[· % zv.cells.size]!)).toList := by
    rw [hz0, zeros_av]; exact VRL.sc _
  obtain ⟨c', hc', hv', hl'⟩ := fill_sound (place' := fun j => some (j * i.size, i.size)) (fun _ _ hq => hq) (VRP.map hρ parts.toList) hv0 hcs
  have hlen := hv'.length
  have hsize : c'.size = len * i.size := by
    have e1 : c'.toList.length = c'.size := Array.length_toList
    rw [← e1, hlen, hl']
    simp [hzs]
  have he : (parts.map fun (x : Nat × Operand) => (x.1, a.eval x.2)).toList = parts.toList.map fun (x : Nat × Operand) => (x.1, a.eval x.2) := by simp
  refine ⟨_, _, rfl, .slice (some ⟨w.heap.size, 0, none⟩) len len, w.alloc (.cells c' e), c', c'.toList, [], some len, ?_, rfl, rfl, rfl, by simp, fun i hi => heap_alloc_old _ _ _ hi, heap_alloc_new _ _, by simp, hv', one_cell hv' h1, fun _ => ⟨len, rfl, hsize, ?_⟩, (fun h => by cases h), rfl, rfl, fun w2 Fb B' hB => ?_⟩
  · simp only [execOp, ho, Instr.buildSlice, Sem.run_bind, run_under hu, Result.andThen_ok, run_szOf hsz]
    rw [Sem.run_ite, if_neg (by omega)]
    by_cases h0 : len * i.size = 0
    · have hc2 : Instr.fill (fun i_1 => some (i_1 * i.size, i.size)) ((Array.range (len * i.size)).map ((#[] : Array Value)[· % (#[] : Array Value).size]!)) (parts.map fun (x : Nat × Operand) => (x.1, a.eval x.2)).toList = some c' := by
        have e0 : ∀ f : Nat → Value, (Array.range 0).map f = #[] := fun f => by simp
        rw [he, ← hc', h0, e0, e0]
      rw [Sem.run_ite, if_pos h0]
      simp only [Sem.run_bind, Sem.run_pure, Result.andThen_ok]
      rw [hc2]
      simp only [Sem.run_bind, newRow, run_newObj, Result.andThen_ok, Sem.run_pure]
      rfl
    · rw [Sem.run_ite, if_neg h0]
      simp only [Sem.run_bind, run_zero hi hz, Sem.run_pure, Result.andThen_ok]
      rw [he, hc']
      simp only [Sem.run_bind, newRow, run_newObj, Result.andThen_ok, Sem.run_pure]
      rfl
  · have : len ≤ len * i.size := Nat.le_mul_of_pos_right _ hpos
    unfold maxLen
    omega
  · by_cases h0 : len = 0
    · rw [if_pos h0]
      subst h0
      simp only [VR]
      exact ⟨_, rfl⟩
    · rw [if_neg h0]
      simp only [VR]
      exact ⟨_, len, _, 0, some len, rfl, hB, Nat.le_refl _, fun _ => ⟨by simp, Nat.le_refl _, fun n hn => by cases hn; rfl⟩⟩
theorem op_makeSlice (hρ : ∀ x, VR w (Forb F B) B (ρ x) (a.eval x)) {o : Oper} {t : TypeId} {l c : Operand} (ho : o.op = .makeSlice t l c) {r : Res} (h : aop P H ρ o = some r) :
    ∃ x blk, r = .new x blk ∧ NewOk P w F B H.length a o x blk := by
  simp only [aop, ho] at h
  split at h <;> try (cases h; done)
  rename_i e hu
  split at h <;> try (cases h; done)
  rename_i i hi
  split at h <;> try (cases h; done)
  rename_i zv nl nc hz hl hcp
  split at h <;> try (cases h; done)
  rename_i hc
  simp only [Bool.and_eq_true, decide_eq_true_eq, beq_iff_eq] at hc
  obtain ⟨⟨⟨⟨⟨⟨hpos, hzs⟩, hone⟩, hl0⟩, hlc⟩, hby⟩, hmx⟩ := hc
  cases h
  obtain ⟨k1, e1⟩ := aint_at (hρ l) hl
  obtain ⟨k2, e2⟩ := aint_at (hρ c) hcp
  have hsz : szOf P e = some i.size := by unfold szOf; rw [hi]; rfl
  obtain ⟨m, rfl⟩ : ∃ m : Nat, nc = m := ⟨nc.toNat, by omega⟩
  obtain ⟨n, rfl⟩ : ∃ n : Nat, nl = n := ⟨nl.toNat, by omega⟩
  simp only [Int.toNat_natCast] at hby hmx ⊢
  have hmx' : m ≤ 9223372036854775807 := by unfold maxLen at hmx; omega
  have hwm : IntKind.i64.wrap (m : Int) = m := by simp only [IntKind.wrap_i64]; omega
  have hwn : IntKind.i64.wrap (n : Int) = n := by simp only [IntKind.wrap_i64]; omega
  have hz0 := zeros_list zv.cells (by omega) m
  rw [hzs] at hz0
  have hsplit : (List.replicate m zv.cells.toList).flatten = (List.replicate n zv.cells.toList).flatten ++ (List.replicate (m - n) zv.cells.toList).flatten := by
    rw [← List.flatten_append, List.replicate_append_replicate]
    congr 2
    omega
  refine ⟨_, _, rfl, .slice (some ⟨w.heap.size, 0, none⟩) n m, w.alloc (.cells ((Array.range (m * i.size)).map (zv.cells[· % i.size]!)) e), (Array.range (m * i.size)).map (zv.cells[· % i.size]!), (List.replicate n zv.cells.toList).flatten, (List.replicate (m - n) zv.cells.toList).flatten, some m, ?_, rfl, rfl, rfl, by simp, fun i hi => heap_alloc_old _ _ _ hi, heap_alloc_new _ _, by rw [hz0, hsplit], by rw [zeros_av]; exact VRL.sc _, zeros_one hone n, fun _ => ⟨m, rfl, by simp, hmx⟩, (fun h => by cases h), rfl, rfl, fun w2 Fb B' hB => ?_⟩
  · simp only [execOp, ho, Instr.makeSlice, asInt, Sem.run_bind, run_under hu, Result.andThen_ok, e1, e2, run_asInt, run_typeInfo hi, Sem.run_pure, hwm, hwn]
    have hb : (i.bytes : Int) * (m : Int) ≤ 140737488355328 := by
      have : ((m * i.bytes : Nat) : Int) ≤ 140737488355328 := by omega
      rw [Int.natCast_mul, Int.mul_comm] at this
      exact this
    rw [Sem.run_ite, if_neg (by simp only [Bool.or_eq_true, decide_eq_true_eq]; omega)]
    simp only [Sem.run_bind, run_askRoom, Result.andThen_ok, Int.toNat_natCast, run_szOf hsz]
    by_cases h0 : m * i.size = 0
    · rw [Sem.run_ite, if_pos h0]
      simp only [Sem.run_bind, Sem.run_pure, Result.andThen_ok, newRow, run_newObj]
      have e0 : ∀ f : Nat → Value, (Array.range 0).map f = #[] := fun f => by simp
      rw [h0, e0, e0]
      rfl
    · rw [Sem.run_ite, if_neg h0]
      simp only [Sem.run_bind, run_zero hi hz, Sem.run_pure, Result.andThen_ok, newRow, run_newObj, hzs]
      rfl
  · simp only [VR]
    exact ⟨_, m, _, 0, some m, rfl, hB, Nat.le_refl _, fun _ => ⟨by simp, by omega, fun n hn => by cases hn; rfl⟩⟩
end
end Go.Proofs.YtpgipdajinkdgaaGreatA

namespace Go.Proofs.YtpgipdajinkdgaaGreatA
open Go Go.RowKit
set_option linter.all false
set_option linter.unusedSectionVars false
set_option linter.constructorNameAsVariable false
set_option linter.unusedVariables false
set_option linter.unusedSimpArgs false
def setBlk (w : World) (g : Nat) (cur : Array Value) (e : TypeId) : World := { w with heap := w.heap.setIfInBounds g (.cells cur e (0, 0)) }
theorem setBlk_self {w : World} {g : Nat} {cur : Array Value} {e : TypeId} (h : w.heap[g]? = some (.cells cur e (0, 0))) : setBlk w g cur e = w := by
  unfold setBlk
  have : w.heap.setIfInBounds g (.cells cur e (0, 0)) = w.heap := by
    apply Array.ext_getElem?
    intro i
    rw [Array.getElem?_setIfInBounds]
    split
    · rename_i hi
      subst hi
      rw [if_pos (lt_of_at h), h]
    · rfl
  rw [this]
theorem setBlk_at {w : World} {g : Nat} {cur : Array Value} {e : TypeId} (h : g < w.heap.size) : (setBlk w g cur e).heap[g]? = some (.cells cur e (0, 0)) := by
  simp [setBlk, Array.getElem?_setIfInBounds, h]
theorem setBlk_other {w : World} {g i : Nat} {cur : Array Value} {e : TypeId} (h : g ≠ i) : (setBlk w g cur e).heap[i]? = w.heap[i]? := by
  simp [setBlk, Array.getElem?_setIfInBounds, h]
theorem setBlk_size {w : World} {g : Nat} {cur : Array Value} {e : TypeId} : (setBlk w g cur e).heap.size = w.heap.size := by simp [setBlk]
theorem setBlk_set {w : World} {g : Nat} {c1 c2 : Array Value} {e : TypeId} : setBlk (setBlk w g c1 e) g c2 e = setBlk w g c2 e := by
  simp [setBlk, Array.setIfInBounds_setIfInBounds]
section
variable {P : Program} {w : World} {F : Nat → Prop} {B : BM} {H : List Blk} {a : Act} {ρ : Operand → AV}
theorem setCell_blk {g off : Nat} {cur : Array Value} {e : TypeId} {v : Value} (h : w.heap[g]? = some (.cells cur e (0, 0))) : w.setCell ⟨g, off, none⟩ v = setBlk w g (cur.setIfInBounds off v) e := by
  unfold World.setCell setBlk
  congr 1
  apply Array.ext_getElem?
  intro i
  rw [Array.getElem?_modify, Array.getElem?_setIfInBounds]
  split
  · rename_i hi
    subst hi
    rw [h, if_pos (lt_of_at h)]
    simp
  · rfl
theorem run_storeCells {g off : Nat} {e : TypeId} : ∀ (vs : List Value) (i : Nat) (w : World) (cur : Array Value), w.heap[g]? = some (.cells cur e (0, 0)) → off + i + vs.length ≤ cur.size → (∀ v ∈ vs, v.oneCell' = true) →
    ∃ cur', (storeCells ⟨g, off, none⟩ vs i).run P w = .ok () (setBlk w g cur' e) ∧ cur'.toList = cur.toList.take (off + i) ++ vs ++ cur.toList.drop (off + i + vs.length)
  | [], i, w, cur, h, _, _ => ⟨cur, by simp only [storeCells, Sem.run_pure, setBlk_self h], by simp⟩
  | v :: vs, i, w, cur, h, hl, h1 => by
    simp only [List.length_cons] at hl
    have hc : w.cell? ⟨g, off + i, none⟩ = some (cur[off + i]'(by omega)) := by
      simp only [World.cell?, h]
      simp [show off + i < cur.size by omega]
    have hf : w.frozen? ⟨g, off + i, none⟩ = false := by simp [World.frozen?, h]
    have hs : (store ((⟨g, off, none⟩ : Addr).add i) v).run P w = .ok () (setBlk w g (cur.setIfInBounds (off + i) v) e) := by
      rw [addr_add, run_store P w _ v .plain (h1 v (by simp)), hc]
      simp only [hf]
      rw [setCell_blk h]
      rfl
    obtain ⟨cur', h2, h3⟩ := run_storeCells (off := off) vs (i + 1) (setBlk w g (cur.setIfInBounds (off + i) v) e) (cur.setIfInBounds (off + i) v) (setBlk_at (lt_of_at h)) (by simp; omega) (fun u hu => h1 u (by simp [hu]))
    refine ⟨cur', ?_, ?_⟩
    · simp only [storeCells, Sem.run_bind, hs, Result.andThen_ok, h2, setBlk_set]
    · rw [h3]
      have hs : (cur.setIfInBounds (off + i) v).toList = cur.toList.set (off + i) v := by simp
      rw [hs]
      have hl : off + i < cur.toList.length := by rw [Array.length_toList]; omega
      rw [List.take_set, List.drop_set_of_lt (by omega)]
      have h1 : (cur.toList.take (off + (i + 1))).set (off + i) v = cur.toList.take (off + i) ++ [v] := by
        rw [show off + (i + 1) = off + i + 1 by omega, List.take_succ_eq_append_getElem hl, List.set_append_right _ _ (by simp; omega)]
        rw [List.length_take, Nat.min_eq_left (Nat.le_of_lt hl), Nat.sub_self]
        rfl
      rw [h1, show off + (i + 1) + vs.length = off + i + (v :: vs).length by simp only [List.length_cons]; omega]
      simp only [List.append_assoc, List.singleton_append, List.cons_append, List.nil_append]
def UpdOk (P : Program) (w : World) (F : Nat → Prop) (B : BM) (H : List Blk) (a : Act) (o : Oper) (x : AV) (i : Nat) (blk : Blk) : Prop :=
  HR w F B H → ∃ nx w' B', (execOp a.eval o).run P w = .ok nx w' ∧ ((∃ v, nx = .value v ∧ VR w' (Forb F B') B' x v) ∨ (nx = .skip ∧ x = .bad)) ∧ Ext w B w' B' ∧ HR w' F B' (H.set i blk) ∧ (∀ b, B b = none → B' b = none) ∧ ∃ e, B i = some e
theorem upd_any {w' : World} {b g ver : Nat} {c : Option Nat} {blk blk2 : Blk} (hR : HR w F B H) (hB : B b = some (g, ver, c)) (hk : H[b]? = some blk) (hns : blk.kind ≠ .app ∧ blk.kind ≠ .ali) (hv : ver = blk2.ver)
    (h1 : w'.os = w.os) (h2 : w'.tape = w.tape) (h3 : w'.output = w.output) (h0 : w.drawn ≤ w'.drawn) (h4 : w'.heap.size = w.heap.size) (h5 : ∀ i, g ≠ i → w'.heap[i]? = w.heap[i]?)
    (hnew : Ext w B w' B → BRel w' (Forb F B) B blk2 g c) : Ext w B w' B ∧ HR w' F B (H.set b blk2) := by
  have hE : Ext w B w' B := ⟨h1, h2, h3, by rw [h4]; exact Nat.le_refl _, h0, fun i hi ho => ⟨h5 i (fun e => ho ⟨b, ver, c, by rw [← e]; exact hB⟩), ho⟩, BLe.refl B⟩
  have hno : ∀ b', ¬ Shared H b b' := fun b' hs => by
    rcases hs.kind hk with h | h
    · exact hns.1 h
    · exact hns.2 h
  refine ⟨hE, ?_, fun b1 b2 g1 v1 v2 c1 c2 k1 k2 => ?_, hR.nf, fun i hi => by rw [h4]; exact hR.lt i hi⟩
  rotate_left
  · rcases hR.inj b1 b2 g1 v1 v2 c1 c2 k1 k2 with h | h
    · exact .inl h
    · have n1 : b1 ≠ b := fun e => hno b2 (e ▸ h)
      have n2 : b2 ≠ b := fun e => hno b1 (e ▸ h.symm)
      exact .inr (h.mono (List.getElem?_set_ne (Ne.symm n1)) (List.getElem?_set_ne (Ne.symm n2)))
  intro b' g' v' c' hB'
  obtain ⟨blk', hk', hv', hr⟩ := hR.at_ b' g' v' c' hB'
  by_cases hbb : b = b'
  · subst hbb
    rw [hB] at hB'
    cases hB'
    refine ⟨blk2, ?_, hv, hnew hE⟩
    have : b < H.length := by rcases Nat.lt_or_ge b H.length with h | h; exact h; rw [List.getElem?_eq_none h] at hk; cases hk
    rw [List.getElem?_set_self this]
  · refine ⟨blk', by rw [List.getElem?_set_ne hbb]; exact hk', hv', hr.ext hE (h5 g' ?_)⟩
    intro e
    exact (hR.inj b b' g ver v' c c' hB (by rw [e]; exact hB')).elim hbb (hno b')
theorem upd_same {b g ver : Nat} {c : Option Nat} {blk : Blk} {cur cur' : Array Value} {ys' rest : List Value} {cells : List AV} (hR : HR w F B H) (hB : B b = some (g, ver, c)) (hk : H[b]? = some blk) (hv : ver = blk.ver) (hkd : blk.kind = .cells)
    (hcur : w.heap[g]? = some (.cells cur blk.elem (0, 0))) (hsize : cur'.size = cur.size) (hl : cur'.toList = ys' ++ rest) (hy : VRL w (Forb F B) B cells ys') (h1 : ∀ y ∈ ys', y.oneCell' = true)
    (hg : (blk.grow = true → ∃ n, c = some n ∧ cur.size = n * blk.sz ∧ n ≤ maxLen) ∧ (blk.grow = false → c = none ∧ rest = [])) :
    Ext w B (setBlk w g cur' blk.elem) B ∧ HR (setBlk w g cur' blk.elem) F B (H.set b { blk with cells := cells }) := by
  refine upd_any (blk2 := { blk with cells := cells }) hR hB hk (by rw [hkd]; exact ⟨by simp, by simp⟩) hv rfl rfl rfl (Nat.le_refl _) setBlk_size (fun i hi => setBlk_other hi) (fun hE => ?_)
  simp only [BRel, hkd]
  exact ⟨cur', ys', rest, setBlk_at (lt_of_at hcur), hl, hy.ext hE, h1, fun h => by rw [hsize]; exact hg.1 h, hg.2⟩
theorem op_store (hρ : ∀ x, VR w (Forb F B) B (ρ x) (a.eval x)) {o : Oper} {t : TypeId} {p y : Operand} (ho : o.op = .store t p y) {r : Res} (h : aop P H ρ o = some r) :
    ∃ x i blk, r = .upd x i blk ∧ UpdOk P w F B H a o x i blk := by
  simp only [aop, ho] at h
  split at h <;> try (cases h; done)
  rename_i b off ver n e1 hs
  split at h <;> try (cases h; done)
  rename_i blk hb
  split at h <;> try (cases h; done)
  rename_i hc
  simp only [Bool.and_eq_true, decide_eq_true_eq, beq_iff_eq] at hc
  obtain ⟨⟨⟨hsol, hone⟩, hlen⟩, hle⟩ := hc
  cases h
  refine ⟨_, _, _, rfl, fun hR => ?_⟩
  have hp := hρ p
  rw [e1] at hp
  obtain ⟨g, c, hv, hB, cur, ys, rest, q1, q2, q3, q4, q5⟩ := ptr_at hR.weak hp hb
  obtain ⟨hk, hver, hkd⟩ := blkAt_some hb
  have hcells := acells_solid (hρ y) hsol
  have h1 := one_cell hcells hone
  have hl1 := hcells.length
  have hl2 := q3.length
  have hcl : cur.toList.length = cur.size := Array.length_toList
  rw [q2, List.length_append] at hcl
  obtain ⟨cur', r1, r2⟩ := run_storeCells (P := P) (off := off) (a.eval y).cells.toList 0 w cur q1 (by omega) h1
  rw [Nat.add_zero] at r2
  have r3 : cur'.toList = (ys.take off ++ (a.eval y).cells.toList ++ ys.drop (off + (a.eval y).cells.toList.length)) ++ rest := by
    rw [r2, q2, List.take_append_of_le_length (by omega), List.drop_append_of_le_length (by omega)]
    simp only [List.append_assoc]
  have hnew : VRL w (Forb F B) B (splice blk.cells off (acells (ρ y))) (ys.take off ++ (a.eval y).cells.toList ++ ys.drop (off + (a.eval y).cells.toList.length)) := by
    unfold splice
    rw [hl1]
    exact VRL.append (VRL.append (VRL.take off q3) hcells) (VRL.drop _ q3)
  have hsize : cur'.size = cur.size := by
    have e1 : cur'.toList.length = cur'.size := Array.length_toList
    rw [r3] at e1
    simp only [List.length_append, List.length_take, List.length_drop] at e1
    omega
  obtain ⟨hE, hR'⟩ := upd_same hR hB hk hver.symm hkd q1 hsize r3 hnew (fun u hu => by
    rcases List.mem_append.1 hu with hu | hu
    · rcases List.mem_append.1 hu with hu | hu
      · exact q4 u (List.mem_of_mem_take hu)
      · exact h1 u hu
    · exact q4 u (List.mem_of_mem_drop hu)) q5
  refine ⟨.skip, _, B, ?_, .inr ⟨rfl, rfl⟩, hE, hR', fun _ h => h, _, hB⟩
  simp only [execOp, ho, hv, Instr.storeAt, Instr.sureAddr, Sem.run_bind, Sem.run_pure, Result.andThen_ok, storeVar, run_szOf hs]
  rw [Sem.run_ite, if_neg (by have : (a.eval y).cells.toList.length = (a.eval y).cells.size := Array.length_toList; omega)]
  simp only [r1, Result.andThen_ok]
end
end Go.Proofs.YtpgipdajinkdgaaGreatA
