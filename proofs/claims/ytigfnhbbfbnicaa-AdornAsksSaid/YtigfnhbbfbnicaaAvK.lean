/- A part of the proof of AdornAsks: functions of the program, run by the evaluator. -/

/- The abstract evaluator is right: clear, copy; and all operations. -/
import Derived.Test.YtigfnhbbfbnicaaAvU
namespace Go.Proofs.YtigfnhbbfbnicaaA
open Go Go.RowKit
set_option linter.all false
set_option linter.unusedSectionVars false
set_option linter.constructorNameAsVariable false
set_option linter.unusedVariables false
set_option linter.unusedSimpArgs false
section
variable {P : Program} {w : World} {F : Nat → Prop} {B : BM} {H : List Blk} {a : Act} {ρ : Operand → AV}
theorem ResOk.of_val {o : Oper} {r : Res} (h : ∃ x, r = .val x ∧ ValOk P w F B a o x) : ResOk P w F B H a o r := by
  obtain ⟨x, rfl, h⟩ := h
  exact h
theorem ResOk.of_new {o : Oper} {r : Res} (h : ∃ x blk, r = .new x blk ∧ NewOk P w F B H.length a o x blk) : ResOk P w F B H a o r := by
  obtain ⟨x, blk, rfl, h⟩ := h
  exact h.any
theorem ResOk.of_upd {o : Oper} {r : Res} (h : ∃ x i blk, r = .upd x i blk ∧ UpdOk P w F B H a o x i blk) : ResOk P w F B H a o r := by
  obtain ⟨x, i, blk, rfl, h⟩ := h
  exact h
theorem splice_blk {b g ver off : Nat} {c : Option Nat} {blk : Blk} {vs : List Value} {us : List AV} (hR : HR w F B H) (hB : B b = some (g, ver, c)) (hk : H[b]? = some blk) (hv : blk.ver = ver) (hkd : blk.kind = .cells) (hbr : BRelC w (Forb F B) B blk g c)
    (hle : off + us.length ≤ blk.cells.length) (hus : VRL w (Forb F B) B us vs) (h1 : ∀ v ∈ vs, v.oneCell' = true) :
    ∃ w', (storeCells ⟨g, off, none⟩ vs).run P w = .ok () w' ∧ Ext w B w' B ∧ HR w' F B (H.set b { blk with cells := splice blk.cells off us }) := by
  obtain ⟨cur, ys, rest, q1, q2, q3, q4, q5⟩ := hbr
  have hl1 := hus.length
  have hl2 := q3.length
  have hcl : cur.toList.length = cur.size := Array.length_toList
  rw [q2, List.length_append] at hcl
  obtain ⟨cur', r1, r2⟩ := run_storeCells (P := P) (off := off) vs 0 w cur q1 (by omega) h1
  rw [Nat.add_zero] at r2
  have r3 : cur'.toList = (ys.take off ++ vs ++ ys.drop (off + vs.length)) ++ rest := by
    rw [r2, q2, List.take_append_of_le_length (by omega), List.drop_append_of_le_length (by omega)]
    simp only [List.append_assoc]
  have hnew : VRL w (Forb F B) B (splice blk.cells off us) (ys.take off ++ vs ++ ys.drop (off + vs.length)) := by
    unfold splice
    rw [hl1]
    exact VRL.append (VRL.append (VRL.take off q3) hus) (VRL.drop _ q3)
  have hsize : cur'.size = cur.size := by
    have e1 : cur'.toList.length = cur'.size := Array.length_toList
    rw [r3] at e1
    simp only [List.length_append, List.length_take, List.length_drop] at e1
    omega
  obtain ⟨hE, hR'⟩ := upd_same hR hB hk hv.symm hkd q1 hsize r3 hnew (fun u hu => by
    rcases List.mem_append.1 hu with hu | hu
    · rcases List.mem_append.1 hu with hu | hu
      · exact q4 u (List.mem_of_mem_take hu)
      · exact h1 u hu
    · exact q4 u (List.mem_of_mem_drop hu)) q5
  exact ⟨_, r1, hE, hR'⟩
theorem op_clear (hH : HRw w F B H) (hρ : ∀ x, VR w (Forb F B) B (ρ x) (a.eval x)) {o : Oper} {c : Call} (ho : o.op = .call c) (hc : c.callee = .builtin .clear) {r : Res} (h : aop P H ρ o = some r) : ResOk P w F B H a o r := by
  simp only [aop, ho, hc] at h
  split at h <;> try (cases h; done)
  rename_i x t hargs htys
  split at h <;> try (cases h; done)
  rename_i e hu
  have ea : c.args = #[x] := by rw [← Array.toList_inj]; exact hargs
  have et : c.argTypes = #[t] := by rw [← Array.toList_inj]; exact htys
  have hx := hρ x
  have hrun : ∀ v w', (Builtin.clear_ #[t] o.type #[a.eval x]).run P w = .ok v w' → (execOp a.eval o).run P w = .ok (.value v) w' := by
    intro v w' hr
    obtain ⟨cs', hcs'⟩ := run_call (a := a) ho hc
    rw [hcs', ea, et]
    simp only [builtin, List.map_toArray, List.map_cons, List.map_nil, Sem.run_bind, hr, Result.andThen_ok, Sem.run_pure]
  have hnil : ∀ A c, a.eval x = .slice A 0 c → ValOk P w F B a o (.tup []) := by
    intro A c e1
    refine ⟨.tuple #[], hrun _ _ ?_, by simp only [VR]; exact ⟨#[], rfl, by simp only [VRL]⟩⟩
    rw [e1]
    simp only [Builtin.clear_, List.getElem?_toArray, List.getElem?_cons_zero, Sem.run_bind, run_under hu, Result.andThen_ok]
    cases A <;> rfl
  split at h
  · rename_i sz e1
    cases h
    rw [e1] at hx
    simp only [VR] at hx
    obtain ⟨A, cap, _, hv, _⟩ := hx
    exact hnil A cap hv
  · rename_i b o1 len sz ver e1
    split at h <;> try (cases h; done)
    rename_i blk i hb hi
    split at h <;> try (cases h; done)
    rename_i zv hz
    split at h <;> try (cases h; done)
    rename_i hcond
    simp only [Bool.and_eq_true, decide_eq_true_eq, beq_iff_eq] at hcond
    obtain ⟨⟨⟨⟨hpos, hsz⟩, hzs⟩, hone⟩, hle⟩ := hcond
    rw [e1] at hx
    obtain ⟨g, cap, cc, hv, hB, hcap, hcc, hbr⟩ := own_at hH hx hb
    obtain ⟨hk, hver, hkd⟩ := blkAt_some hb
    by_cases h0 : len = 0
    · rw [if_pos h0] at h
      cases h
      subst h0
      exact hnil _ _ hv
    · rw [if_neg h0] at h
      cases h
      intro hR
      obtain ⟨k, rfl⟩ : ∃ k, len = k + 1 := ⟨len - 1, by omega⟩
      have hzl := zeros_list zv.cells (by omega) (k + 1)
      obtain ⟨w', r1, hE, hR'⟩ := splice_blk (P := P) (off := o1 * sz) (us := (List.replicate (k + 1) (zv.cells.toList.map AV.sc)).flatten) (vs := (List.replicate (k + 1) zv.cells.toList).flatten) hR hB hk hver hkd hbr
        (by rw [zeros_av, List.length_map]; simp [hzs, ← hsz]; rw [← Nat.add_mul]; exact hle) (by rw [zeros_av]; exact VRL.sc _) (zeros_one hone _)
      refine ⟨_, w', B, hrun (.tuple #[]) w' ?_, .inl ⟨_, rfl, by simp only [VR]; exact ⟨#[], rfl, by simp only [VRL]⟩⟩, hE, hR', fun _ h => h⟩
      rw [hv]
      simp only [Builtin.clear_, List.getElem?_toArray, List.getElem?_cons_zero, Sem.run_bind, run_under hu, Result.andThen_ok, run_zero hi hz, Builtin.zeroCells, hzl, r1, Sem.run_pure]
  · exact ResOk.of_val (ValOk.of_sop hρ h)
theorem op_copy (hH : HRw w F B H) (hρ : ∀ x, VR w (Forb F B) B (ρ x) (a.eval x)) {o : Oper} {c : Call} (ho : o.op = .call c) (hc : c.callee = .builtin .copy) {r : Res} (h : aop P H ρ o = some r) : ResOk P w F B H a o r := by
  simp only [aop, ho, hc] at h
  split at h <;> try (cases h; done)
  rename_i x y t u hargs htys
  split at h <;> try (cases h; done)
  rename_i htu
  subst htu
  split at h <;> try (cases h; done)
  rename_i e hu
  split at h <;> try (cases h; done)
  rename_i s hs
  split at h <;> try (cases h; done)
  rename_i hpos
  split at h <;> try (cases h; done)
  rename_i b o1 len sz ver cs m e1 hel
  split at h <;> try (cases h; done)
  rename_i blk hb
  split at h <;> try (cases h; done)
  rename_i hcond
  simp only [Bool.and_eq_true, decide_eq_true_eq] at hcond
  obtain ⟨⟨hsz, hone⟩, hle⟩ := hcond
  subst hsz
  have ea : c.args = #[x, y] := by rw [← Array.toList_inj]; exact hargs
  have et : c.argTypes = #[t, t] := by rw [← Array.toList_inj]; exact htys
  have hx := hρ x
  rw [e1] at hx
  obtain ⟨g, cap, cc, hv, hB, hcap, hcc, hbr⟩ := own_at hH hx hb
  obtain ⟨hk, hver, hkd⟩ := blkAt_some hb
  obtain ⟨A, cp, ys, hvy, hys, hlen, hmem⟩ := elems_at hH (hρ y) hel hpos
  have hy1 := one_cell hys hone
  have hyl := hys.length
  have hrun : ∀ v w', (Builtin.copy_ #[t, t] o.type #[a.eval x, a.eval y]).run P w = .ok v w' → (execOp a.eval o).run P w = .ok (.value v) w' := by
    intro v w' hr
    obtain ⟨cs', hcs'⟩ := run_call (a := a) ho hc
    rw [hcs', ea, et]
    simp only [builtin, List.map_toArray, List.map_cons, List.map_nil, Sem.run_bind, hr, Result.andThen_ok, Sem.run_pure]
  by_cases h0 : min m len = 0
  · rw [if_pos h0] at h
    cases h
    refine ⟨.int .i64 0, hrun _ _ ?_, by simp only [VR]⟩
    rw [hv, hvy]
    have hn : Nat.min m len = 0 := h0
    have e0 : (Builtin.firstCells sz 0 (.slice A m cp)).run P w = .ok #[] w := by cases A <;> simp [Builtin.firstCells, loadCells, loadCellsFrom]
    simp only [Builtin.copy_, List.getElem?_toArray, List.getElem?_cons_zero, List.getElem?_cons_succ, Sem.run_bind, run_under hu, Result.andThen_ok, Builtin.lenOf, Sem.run_pure, hn, run_szOf hs, e0, storeCells, goInt]
    rfl
  · rw [if_neg h0] at h
    cases h
    intro hR
    obtain ⟨a0, rfl, hcell⟩ := hmem (by omega)
    have hml : min m len * sz ≤ m * sz := Nat.mul_le_mul_right _ (Nat.min_le_left _ _)
    have hll : min m len * sz ≤ len * sz := Nat.mul_le_mul_right _ (Nat.min_le_right _ _)
    rw [Nat.add_mul] at hle
    obtain ⟨w', r1, hE, hR'⟩ := splice_blk (P := P) (off := o1 * sz) (us := cs.take (min m len * sz)) (vs := ys.take (min m len * sz)) hR hB hk hver hkd hbr (by rw [List.length_take]; omega) (VRL.take _ hys) (fun v hv => hy1 v (List.mem_of_mem_take hv))
    refine ⟨_, w', B, hrun (.int .i64 (min m len : Nat)) w' ?_, .inl ⟨_, rfl, by simp only [VR]⟩, hE, hR', fun _ h => h⟩
    rw [hv, hvy]
    have hn : Nat.min m len = min m len := rfl
    have e0 : (Builtin.firstCells sz (min m len) (.slice (some a0) m cp)).run P w = .ok (ys.take (min m len * sz)).toArray w := by
      simp only [Builtin.firstCells, loadCells]
      rw [run_cells a0 (min m len * sz) 0 #[] (ys.take (min m len * sz)) (by rw [List.length_take]; omega) (fun j y hj => by
        rw [Nat.zero_add]
        rw [List.getElem?_take] at hj
        split at hj
        · exact hcell _ _ hj
        · cases hj)]
      simp
    simp only [Builtin.copy_, List.getElem?_toArray, List.getElem?_cons_zero, List.getElem?_cons_succ, Sem.run_bind, run_under hu, Result.andThen_ok, Builtin.lenOf, Sem.run_pure, hn, run_szOf hs, e0, goInt, List.toList_toArray, r1]
theorem aop_sound (hH : HRw w F B H) (hρ : ∀ x, VR w (Forb F B) B (ρ x) (a.eval x)) {o : Oper} {r : Res} (h : aop P H ρ o = some r) : ResOk P w F B H a o r := by
  cases ho : o.op with
  | move x => exact .of_val (op_move hρ (.inl ho) h)
  | assign x => exact .of_val (op_move hρ (.inr ho) h)
  | pick c x y => exact .of_val (op_pick hρ ho h)
  | alloc e => exact .of_new (op_alloc ho h)
  | box e x => exact .of_new (op_box hρ ho h)
  | build t parts => exact .of_val (op_build ho hρ h)
  | buildSlice t n parts => exact .of_new (op_buildSlice hρ ho h)
  | load t x => exact .of_val (op_load hH hρ ho h)
  | store t x y => exact .of_upd (op_store hρ ho h)
  | nilCheck x => exact .of_val (op_nilCheck hρ ho h)
  | binOp op t x y yt => exact .of_val (op_binOp hH hρ ho h)
  | makeFunc fn x y => exact .of_val (op_makeFunc hρ ho h)
  | makeInterface t x => exact .of_val (op_makeInterface hρ ho h)
  | makeSlice t l c => exact .of_new (op_makeSlice hρ ho h)
  | slice t x lo hi mx => exact .of_val (op_slice hH hρ ho h)
  | fieldAddr t x f => exact .of_val (op_fieldAddr hH hρ ho h)
  | field t x f => exact .of_val (op_field hρ ho h)
  | indexAddr t x i => exact .of_val (op_indexAddr hH hρ ho h)
  | index t x i => exact .of_val (op_index hρ ho h)
  | makeMap t q =>
    obtain ⟨x, blk, rfl, hh⟩ := op_makeMap hρ ho h
    exact hh
  | lookup t x k ok => exact .of_val (op_lookup hH hρ ho h)
  | mapUpdate t m k x => exact .of_upd (op_mapUpdate hH hρ (.inl ho) h)
  | insert t m k x => exact .of_upd (op_mapUpdate hH hρ (.inr ho) h)
  | mapEntry t m k => exact .of_upd (op_mapEntry hH hρ ho h)
  | entryStore t m s x => exact .of_upd (op_entryStore hH hρ ho h)
  | convert s t x => exact .of_val (op_convert hH hρ ho h)
  | extract x i => exact .of_val (op_extract hρ ho h)
  | call c =>
    cases hc : c.callee with
    | builtin b =>
      cases b with
      | len => exact .of_val (op_len hH hρ ho hc h)
      | unsafeSliceData => exact .of_val (op_sliceData hH hρ ho hc h)
      | unsafeString => exact op_unsafeString hρ ho hc h
      | append => exact op_append hH hρ ho hc h
      | clear => exact op_clear hH hρ ho hc h
      | copy => exact op_copy hH hρ ho hc h
      | _ => exact .of_val (ValOk.of_sop hρ (by simpa only [aop, ho, hc] using h))
    | _ => simp only [aop, ho, hc] at h; cases h
  | _ => exact .of_val (ValOk.of_sop hρ (by simpa only [aop, ho] using h))
end
end Go.Proofs.YtigfnhbbfbnicaaA
