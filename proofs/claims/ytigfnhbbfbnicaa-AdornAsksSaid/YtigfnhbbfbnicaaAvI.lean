/- A part of the proof of AdornAsks: functions of the program, run by the evaluator. -/

/- The abstract evaluator is right: operations that change a block. -/
import Derived.Test.YtigfnhbbfbnicaaAvH
namespace Go.Proofs.YtigfnhbbfbnicaaA
open Go Go.RowKit
set_option linter.all false
set_option linter.unusedSectionVars false
set_option linter.constructorNameAsVariable false
set_option linter.unusedVariables false
set_option linter.unusedSimpArgs false
def setBlk (w : World) (g : Nat) (cur : Array Value) (e : TypeId) : World := { w with heap := w.heap.setIfInBounds g (.cells cur e (0, 0)) }
theorem setBlk_self {w : World} {g : Nat} {cur : Array Value} {e : TypeId} (h : w.heap[g]? = some (.cells cur e (0, 0))) : setBlk w g cur e = w := by
  unfold setBlk
  have : w.heap.setIfInBounds g (.cells cur e (0, 0)) = w.heap := by
    apply Array.ext_getElem?
    intro i
    rw [Array.getElem?_setIfInBounds]
    split
    · rename_i hi
      subst hi
      rw [if_pos (lt_of_at h), h]
    · rfl
  rw [this]
theorem setBlk_at {w : World} {g : Nat} {cur : Array Value} {e : TypeId} (h : g < w.heap.size) : (setBlk w g cur e).heap[g]? = some (.cells cur e (0, 0)) := by
  simp [setBlk, Array.getElem?_setIfInBounds, h]
theorem setBlk_other {w : World} {g i : Nat} {cur : Array Value} {e : TypeId} (h : g ≠ i) : (setBlk w g cur e).heap[i]? = w.heap[i]? := by
  simp [setBlk, Array.getElem?_setIfInBounds, h]
theorem setBlk_size {w : World} {g : Nat} {cur : Array Value} {e : TypeId} : (setBlk w g cur e).heap.size = w.heap.size := by simp [setBlk]
theorem setBlk_set {w : World} {g : Nat} {c1 c2 : Array Value} {e : TypeId} : setBlk (setBlk w g c1 e) g c2 e = setBlk w g c2 e := by
  simp [setBlk, Array.setIfInBounds_setIfInBounds]
section
variable {P : Program} {w : World} {F : Nat → Prop} {B : BM} {H : List Blk} {a : Act} {ρ : Operand → AV}
theorem setCell_blk {g off : Nat} {cur : Array Value} {e : TypeId} {v : Value} (h : w.heap[g]? = some (.cells cur e (0, 0))) : w.setCell ⟨g, off, none⟩ v = setBlk w g (cur.setIfInBounds off v) e := by
  unfold World.setCell setBlk
  congr 1
  apply Array.ext_getElem?
  intro i
  rw [Array.getElem?_modify, Array.getElem?_setIfInBounds]
  split
  · rename_i hi
    subst hi
    rw [h, if_pos (lt_of_at h)]
    simp
  · rfl
theorem run_storeCells {g off : Nat} {e : TypeId} : ∀ (vs : List Value) (i : Nat) (w : World) (cur : Array Value), w.heap[g]? = some (.cells cur e (0, 0)) → off + i + vs.length ≤ cur.size → (∀ v ∈ vs, v.oneCell' = true) →
    ∃ cur', (storeCells ⟨g, off, none⟩ vs i).run P w = .ok () (setBlk w g cur' e) ∧ cur'.toList = cur.toList.take (off + i) ++ vs ++ cur.toList.drop (off + i + vs.length)
  | [], i, w, cur, h, _, _ => ⟨cur, by simp only [storeCells, Sem.run_pure, setBlk_self h], by simp⟩
  | v :: vs, i, w, cur, h, hl, h1 => by
    simp only [List.length_cons] at hl
    have hc : w.cell? ⟨g, off + i, none⟩ = some (cur[off + i]'(by omega)) := by
      simp only [World.cell?, h]
      simp [show off + i < cur.size by omega]
    have hf : w.frozen? ⟨g, off + i, none⟩ = false := by simp [World.frozen?, h]
    have hs : (store ((⟨g, off, none⟩ : Addr).add i) v).run P w = .ok () (setBlk w g (cur.setIfInBounds (off + i) v) e) := by
      rw [addr_add, run_store P w _ v .plain (h1 v (by simp)), hc]
      simp only [hf]
      rw [setCell_blk h]
      rfl
    obtain ⟨cur', h2, h3⟩ := run_storeCells (off := off) vs (i + 1) (setBlk w g (cur.setIfInBounds (off + i) v) e) (cur.setIfInBounds (off + i) v) (setBlk_at (lt_of_at h)) (by simp; omega) (fun u hu => h1 u (by simp [hu]))
    refine ⟨cur', ?_, ?_⟩
    · simp only [storeCells, Sem.run_bind, hs, Result.andThen_ok, h2, setBlk_set]
    · rw [h3]
      have hs : (cur.setIfInBounds (off + i) v).toList = cur.toList.set (off + i) v := by simp
      rw [hs]
      have hl : off + i < cur.toList.length := by rw [Array.length_toList]; omega
      rw [List.take_set, List.drop_set_of_lt (by omega)]
      have h1 : (cur.toList.take (off + (i + 1))).set (off + i) v = cur.toList.take (off + i) ++ [v] := by
        rw [show off + (i + 1) = off + i + 1 by omega, List.take_succ_eq_append_getElem hl, List.set_append_right _ _ (by simp; omega)]
        rw [List.length_take, Nat.min_eq_left (Nat.le_of_lt hl), Nat.sub_self]
        rfl
      rw [h1, show off + (i + 1) + vs.length = off + i + (v :: vs).length by simp only [List.length_cons]; omega]
      simp only [List.append_assoc, List.singleton_append, List.cons_append, List.nil_append]
def UpdOk (P : Program) (w : World) (F : Nat → Prop) (B : BM) (H : List Blk) (a : Act) (o : Oper) (x : AV) (i : Nat) (blk : Blk) : Prop :=
  HR w F B H → ∃ nx w' B', (execOp a.eval o).run P w = .ok nx w' ∧ ((∃ v, nx = .value v ∧ VR w' (Forb F B') B' x v) ∨ (nx = .skip ∧ x = .bad)) ∧ Ext w B w' B' ∧ HR w' F B' (H.set i blk) ∧ (∀ b, B b = none → B' b = none)
theorem upd_any {w' : World} {b g ver : Nat} {c : Option Nat} {blk blk2 : Blk} (hR : HR w F B H) (hB : B b = some (g, ver, c)) (hk : H[b]? = some blk) (hv : ver = blk2.ver)
    (h1 : w'.os = w.os) (h2 : w'.tape = w.tape) (h3 : w'.output = w.output) (h0 : w.drawn ≤ w'.drawn) (h4 : w'.heap.size = w.heap.size) (h5 : ∀ i, g ≠ i → w'.heap[i]? = w.heap[i]?)
    (hnew : Ext w B w' B → BRel w' (Forb F B) B blk2 g c) : Ext w B w' B ∧ HR w' F B (H.set b blk2) := by
  have hE : Ext w B w' B := ⟨h1, h2, h3, by rw [h4]; exact Nat.le_refl _, h0, fun i hi ho => ⟨h5 i (fun e => ho ⟨b, ver, c, by rw [← e]; exact hB⟩), ho⟩, BLe.refl B⟩
  refine ⟨hE, ?_, hR.inj, hR.nf, fun i hi => by rw [h4]; exact hR.lt i hi⟩
  intro b' g' v' c' hB'
  obtain ⟨blk', hk', hv', hr⟩ := hR.at_ b' g' v' c' hB'
  by_cases hbb : b = b'
  · subst hbb
    rw [hB] at hB'
    cases hB'
    refine ⟨blk2, ?_, hv, hnew hE⟩
    have : b < H.length := by rcases Nat.lt_or_ge b H.length with h | h; exact h; rw [List.getElem?_eq_none h] at hk; cases hk
    rw [List.getElem?_set_self this]
  · refine ⟨blk', by rw [List.getElem?_set_ne hbb]; exact hk', hv', hr.ext hE (h5 g' ?_)⟩
    intro e
    exact hbb (hR.inj b b' g ver v' c c' hB (by rw [e]; exact hB'))
theorem upd_same {b g ver : Nat} {c : Option Nat} {blk : Blk} {cur cur' : Array Value} {ys' rest : List Value} {cells : List AV} (hR : HR w F B H) (hB : B b = some (g, ver, c)) (hk : H[b]? = some blk) (hv : ver = blk.ver) (hkd : blk.kind = .cells)
    (hcur : w.heap[g]? = some (.cells cur blk.elem (0, 0))) (hsize : cur'.size = cur.size) (hl : cur'.toList = ys' ++ rest) (hy : VRL w (Forb F B) B cells ys') (h1 : ∀ y ∈ ys', y.oneCell' = true)
    (hg : (blk.grow = true → ∃ n, c = some n ∧ cur.size = n * blk.sz ∧ n ≤ maxLen) ∧ (blk.grow = false → c = none ∧ rest = [])) :
    Ext w B (setBlk w g cur' blk.elem) B ∧ HR (setBlk w g cur' blk.elem) F B (H.set b { blk with cells := cells }) := by
  refine upd_any (blk2 := { blk with cells := cells }) hR hB hk hv rfl rfl rfl (Nat.le_refl _) setBlk_size (fun i hi => setBlk_other hi) (fun hE => ?_)
  simp only [BRel, hkd]
  exact ⟨cur', ys', rest, setBlk_at (lt_of_at hcur), hl, hy.ext hE, h1, fun h => by rw [hsize]; exact hg.1 h, hg.2⟩
theorem op_store (hρ : ∀ x, VR w (Forb F B) B (ρ x) (a.eval x)) {o : Oper} {t : TypeId} {p y : Operand} (ho : o.op = .store t p y) {r : Res} (h : aop P H ρ o = some r) :
    ∃ x i blk, r = .upd x i blk ∧ UpdOk P w F B H a o x i blk := by
  simp only [aop, ho] at h
  split at h <;> try (cases h; done)
  rename_i b off ver n e1 hs
  split at h <;> try (cases h; done)
  rename_i blk hb
  split at h <;> try (cases h; done)
  rename_i hc
  simp only [Bool.and_eq_true, decide_eq_true_eq, beq_iff_eq] at hc
  obtain ⟨⟨⟨hsol, hone⟩, hlen⟩, hle⟩ := hc
  cases h
  refine ⟨_, _, _, rfl, fun hR => ?_⟩
  have hp := hρ p
  rw [e1] at hp
  obtain ⟨g, c, hv, hB, cur, ys, rest, q1, q2, q3, q4, q5⟩ := ptr_at hR.weak hp hb
  obtain ⟨hk, hver, hkd⟩ := blkAt_some hb
  have hcells := acells_solid (hρ y) hsol
  have h1 := one_cell hcells hone
  have hl1 := hcells.length
  have hl2 := q3.length
  have hcl : cur.toList.length = cur.size := Array.length_toList
  rw [q2, List.length_append] at hcl
  obtain ⟨cur', r1, r2⟩ := run_storeCells (P := P) (off := off) (a.eval y).cells.toList 0 w cur q1 (by omega) h1
  rw [Nat.add_zero] at r2
  have r3 : cur'.toList = (ys.take off ++ (a.eval y).cells.toList ++ ys.drop (off + (a.eval y).cells.toList.length)) ++ rest := by
    rw [r2, q2, List.take_append_of_le_length (by omega), List.drop_append_of_le_length (by omega)]
    simp only [List.append_assoc]
  have hnew : VRL w (Forb F B) B (splice blk.cells off (acells (ρ y))) (ys.take off ++ (a.eval y).cells.toList ++ ys.drop (off + (a.eval y).cells.toList.length)) := by
    unfold splice
    rw [hl1]
    exact VRL.append (VRL.append (VRL.take off q3) hcells) (VRL.drop _ q3)
  have hsize : cur'.size = cur.size := by
    have e1 : cur'.toList.length = cur'.size := Array.length_toList
    rw [r3] at e1
    simp only [List.length_append, List.length_take, List.length_drop] at e1
    omega
  obtain ⟨hE, hR'⟩ := upd_same hR hB hk hver.symm hkd q1 hsize r3 hnew (fun u hu => by
    rcases List.mem_append.1 hu with hu | hu
    · rcases List.mem_append.1 hu with hu | hu
      · exact q4 u (List.mem_of_mem_take hu)
      · exact h1 u hu
    · exact q4 u (List.mem_of_mem_drop hu)) q5
  refine ⟨.skip, _, B, ?_, .inr ⟨rfl, rfl⟩, hE, hR', fun _ h => h⟩
  simp only [execOp, ho, hv, Instr.storeAt, Instr.sureAddr, Sem.run_bind, Sem.run_pure, Result.andThen_ok, storeVar, run_szOf hs]
  rw [Sem.run_ite, if_neg (by have : (a.eval y).cells.toList.length = (a.eval y).cells.size := Array.length_toList; omega)]
  simp only [r1, Result.andThen_ok]
end
end Go.Proofs.YtigfnhbbfbnicaaA
