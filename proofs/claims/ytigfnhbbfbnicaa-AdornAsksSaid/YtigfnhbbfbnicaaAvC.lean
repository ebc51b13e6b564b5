/- A part of the proof of AdornAsks: functions of the program, run by the evaluator. -/

/- The abstract evaluator is right: operations that read. -/
import Derived.Test.YtigfnhbbfbnicaaAvB
namespace Go.Proofs.YtigfnhbbfbnicaaA
open Go Go.RowKit
set_option linter.all false
set_option linter.unusedSectionVars false
set_option linter.constructorNameAsVariable false
set_option linter.unusedVariables false
set_option linter.unusedSimpArgs false
theorem add_add (a : Addr) (i j : Nat) : (a.add i).add j = a.add (i + j) := by
  unfold Addr.add
  by_cases hi : i = 0
  · subst hi; simp
  · by_cases hj : j = 0
    · subst hj; simp
    · rw [if_neg hi, if_neg hj, if_neg (by omega)]
      simp [Nat.add_assoc]
theorem add_block (a : Addr) (i : Nat) : (a.add i).block = a.block := by unfold Addr.add; split <;> rfl
theorem addr_add (g o i : Nat) : (⟨g, o, none⟩ : Addr).add i = ⟨g, o + i, none⟩ := by
  unfold Addr.add; split <;> simp_all
section
variable {P : Program} {w : World} {F : Nat → Prop} {B : BM} {H : List Blk}
theorem run_szOf {t : TypeId} {n : Nat} (h : szOf P t = some n) (w : World) : (sizeOf t).run P w = .ok n w := by
  unfold szOf at h
  obtain ⟨i, hi, rfl⟩ := Option.map_eq_some_iff.1 h
  simp [sizeOf, typeInfo, hi]
theorem run_typeInfo {t : TypeId} {i : TypeInfo} (h : P.info? t = some i) (w : World) : (typeInfo t).run P w = .ok i w := by
  simp [typeInfo, h]
theorem run_zero {t : TypeId} {i : TypeInfo} {z : Value} (h : P.info? t = some i) (hz : i.zero = some z) (w : World) : (zeroValue t).run P w = .ok z w := by
  simp [zeroValue, typeInfo, h, hz]
theorem run_under {t : TypeId} {d : TypeDesc} (h : P.underlying t = some d) (w : World) : (underlying t).run P w = .ok d w := by
  simp [underlying, h]
theorem run_aggB {t : TypeId} {b : Bool} (h : aggB P t = some b) (w : World) : (isAgg t).run P w = .ok b w := by
  unfold aggB at h
  obtain ⟨d, hd, rfl⟩ := Option.map_eq_some_iff.1 h
  simp only [isAgg, Sem.run_bind, run_under hd, Result.andThen_ok]
  cases d <;> rfl
theorem run_cells (a : Addr) : ∀ (n i : Nat) (acc : Array Value) (ys : List Value), ys.length = n → (∀ j y, ys[j]? = some y → w.cell? (a.add (i + j)) = some y) →
    (loadCellsFrom a i n acc).run P w = .ok (acc ++ ys.toArray) w
  | 0, i, acc, ys, hl, _ => by
    obtain rfl := List.eq_nil_of_length_eq_zero hl
    simp [loadCellsFrom]
  | n + 1, i, acc, ys, hl, hc => by
    cases ys with
    | nil => cases hl
    | cons y ys =>
      have h0 := hc 0 y rfl
      simp only [Nat.add_zero] at h0
      simp only [loadCellsFrom, Sem.run_bind, run_load, h0, Result.andThen_ok]
      rw [run_cells a n (i + 1) (acc.push y) ys (by simpa using hl) (fun j u hu => by
        have := hc (j + 1) u (by simpa using hu)
        rwa [show i + 1 + j = i + (j + 1) by omega])]
      congr 1
      apply Array.ext'
      simp
theorem rd_load {cs : List AV} {ys : List Value} {t : TypeId} {off : Nat} {x : AV} {a0 : Addr} {B' : BM} {Fb : Nat → Prop} (hv : VRL w Fb B' cs ys) (hc : ∀ j y, ys[j]? = some y → w.cell? (a0.add j) = some y)
    (h : rdVar P t cs off = some x) : ∃ v, (loadVar t (a0.add off)).run P w = .ok v w ∧ VR w Fb B' x v := by
  unfold rdVar at h
  split at h
  · rename_i n hb hs
    obtain ⟨l, hl, rfl⟩ := Option.map_eq_some_iff.1 h
    unfold rdCells at hl
    split at hl
    · rename_i hle
      cases hl
      have hlen := hv.length
      have hd : VRL w Fb B' ((cs.drop off).take n) ((ys.drop off).take n) := VRL.take n (VRL.drop off hv)
      refine ⟨.agg ((ys.drop off).take n).toArray, ?_, ?_⟩
      · simp only [loadVar, Sem.run_bind, run_aggB hb, run_szOf hs, Result.andThen_ok, if_true]
        have : (loadCells (a0.add off) n).run P w = .ok ((ys.drop off).take n).toArray w := by
          unfold loadCells
          rw [run_cells (a0.add off) n 0 #[] ((ys.drop off).take n) (by simp; omega) (fun j y hy => by
            rw [Nat.zero_add, add_add]
            refine hc (off + j) y ?_
            rw [List.getElem?_take] at hy
            split at hy
            · rwa [List.getElem?_drop] at hy
            · cases hy)]
          simp
        simp only [Sem.run_bind, this, Result.andThen_ok, Sem.run_pure]
      · simp only [VR]
        exact ⟨_, rfl, by simpa using hd⟩
    · cases hl
  · rename_i n hb hs
    obtain ⟨y, hy, hxy⟩ := VRL.get hv h
    refine ⟨y, ?_, hxy⟩
    simp only [loadVar, Sem.run_bind, run_aggB hb, Result.andThen_ok]
    simp [hc off y hy]
  · cases h
theorem rd_part {cs : List AV} {c : Array Value} {t : TypeId} {off : Nat} {x : AV} {B' : BM} {Fb : Nat → Prop} (hv : VRL w Fb B' cs c.toList)
    (h : rdVar P t cs off = some x) : ∃ v, (part t c off).run P w = .ok v w ∧ VR w Fb B' x v := by
  unfold rdVar at h
  split at h
  · rename_i n hb hs
    obtain ⟨l, hl, rfl⟩ := Option.map_eq_some_iff.1 h
    unfold rdCells at hl
    split at hl
    · cases hl
      have hd : VRL w Fb B' ((cs.drop off).take n) ((c.toList.drop off).take n) := VRL.take n (VRL.drop off hv)
      refine ⟨.agg (c.extract off (off + n)), ?_, ?_⟩
      · simp only [part, Sem.run_bind, run_aggB hb, run_szOf hs, Result.andThen_ok, if_true, Sem.run_pure]
      · simp only [VR]
        refine ⟨_, rfl, ?_⟩
        rw [Array.toList_extract]
        simpa [List.extract] using hd
    · cases hl
  · rename_i n hb hs
    obtain ⟨y, hy, hxy⟩ := VRL.get hv h
    refine ⟨y, ?_, hxy⟩
    have hc : c[off]? = some y := by rw [← Array.getElem?_toList]; exact hy
    simp only [part, Sem.run_bind, run_aggB hb, Result.andThen_ok, hc]
    rfl
  · cases h
def HRw (w : World) (F : Nat → Prop) (B : BM) (H : List Blk) : Prop :=
  ∀ b g v c blk, B b = some (g, v, c) → H[b]? = some blk → v = blk.ver ∧ BRel w (Forb F B) B blk g c
theorem HR.weak (h : HR w F B H) : HRw w F B H := fun b g v c blk hb hk => by
  obtain ⟨blk', hk', hv, hr⟩ := h.at_ b g v c hb
  rw [hk] at hk'
  cases hk'
  exact ⟨hv, hr⟩
theorem blkAt_some {b ver : Nat} {blk : Blk} (h : blkAt H b ver = some blk) : H[b]? = some blk ∧ blk.ver = ver ∧ blk.kind = .cells := by
  unfold blkAt at h
  split at h
  · rename_i bk hk
    split at h
    · rename_i hkd
      cases hb : Nat.beq bk.ver ver
      · rw [hb] at h; cases h
      · rw [hb] at h
        cases h
        exact ⟨hk, Nat.eq_of_beq_eq_true hb, hkd⟩
    · cases h
  · cases h
theorem own_at {b o len sz ver : Nat} {v : Value} {blk : Blk} (hH : HRw w F B H) (h : VR w (Forb F B) B (.own b o len sz ver) v) (hb : blkAt H b ver = some blk) :
    ∃ g cap c, v = .slice (some ⟨g, o * sz, none⟩) len cap ∧ B b = some (g, ver, c) ∧ len ≤ cap ∧ (∀ n, c = some n → cap + o = n) ∧ BRelC w (Forb F B) B blk g c := by
  obtain ⟨hk, hv, hkd⟩ := blkAt_some hb
  simp only [VR] at h
  obtain ⟨A, cap, g, v', c, rfl, e, _, hx⟩ := h
  obtain ⟨h1, h2⟩ := hH b g v' c blk e hk
  simp only [BRel, hkd] at h2
  have hv' : v' = ver := by rw [h1, hv]
  obtain ⟨rfl, hl, hc⟩ := hx hv'
  subst hv'
  exact ⟨g, cap, c, rfl, e, hl, hc, h2⟩
theorem ptr_at {b off ver : Nat} {v : Value} {blk : Blk} (hH : HRw w F B H) (h : VR w (Forb F B) B (.ptr b off ver) v) (hb : blkAt H b ver = some blk) :
    ∃ g c, v = .pointer (some ⟨g, off, none⟩) ∧ B b = some (g, ver, c) ∧ BRelC w (Forb F B) B blk g c := by
  obtain ⟨hk, hv, hkd⟩ := blkAt_some hb
  simp only [VR] at h
  obtain ⟨a, g, v', c, rfl, e, _, hx⟩ := h
  obtain ⟨h1, h2⟩ := hH b g v' c blk e hk
  simp only [BRel, hkd] at h2
  have hv' : v' = ver := by rw [h1, hv]
  subst hv'
  cases hx rfl
  exact ⟨g, c, rfl, e, h2⟩
theorem brel_cells {Fb : Nat → Prop} {blk : Blk} {g : Nat} {c : Option Nat} (h : BRelC w Fb B blk g c) : ∃ ys, VRL w Fb B blk.cells ys ∧ (∀ y ∈ ys, y.oneCell' = true) ∧ ∀ j y, ys[j]? = some y → w.cell? ((⟨g, 0, none⟩ : Addr).add j) = some y := by
  obtain ⟨cur, ys, rest, hh, hl, hv, h1, _, _⟩ := h
  refine ⟨ys, hv, h1, fun j y hy => ?_⟩
  rw [addr_add]
  simp only [World.cell?, hh, Nat.zero_add]
  have : cur.toList[j]? = some y := by rw [hl, List.getElem?_append_left (by rcases Nat.lt_or_ge j ys.length with h' | h'; exact h'; rw [List.getElem?_eq_none h'] at hy; cases hy)]; exact hy
  simpa using this
theorem sop_sound {a : Act} {ρ : Operand → AV} {Fb : Nat → Prop} (hρ : ∀ x, VR w Fb B (ρ x) (a.eval x)) {o : Oper} {x : AV} (h : sop P ρ o = some x) :
    ∃ v, (execOp a.eval o).run P w = .ok (.value v) w ∧ VR w Fb B x v := by
  unfold sop at h
  split at h
  · rename_i hc
    simp only [Bool.and_eq_true, Array.all_eq_true'] at hc
    obtain ⟨h1, h2⟩ := hc
    split at h
    · rename_i v hv
      cases h
      refine ⟨v, ?_, VR.ofV v⟩
      have he : execOp a.eval o = execOp (fun x => (toV (ρ x)).getD undef) o := by
        refine execOp_congr o (fun cs b e => by rw [e] at h2; simp [isSel] at h2) (fun x hx => ?_)
        have h3 := h1 x hx
        obtain ⟨u, hu⟩ := Option.isSome_iff_exists.1 h3
        rw [hu]
        exact toV_sound (hρ x) hu
      rw [he]
      exact pureRun_sound hv w
    · cases h
  · cases h
end
end Go.Proofs.YtigfnhbbfbnicaaA
