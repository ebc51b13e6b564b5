/- The abstract evaluator is right: clear, copy; and all operations. -/
import Derived.Test.YtpgipdajinkdgaaGreatAvU
namespace Go.Proofs.YtpgipdajinkdgaaGreatA
open Go Go.RowKit
set_option linter.all false
set_option linter.unusedSectionVars false
set_option linter.constructorNameAsVariable false
set_option linter.unusedVariables false
set_option linter.unusedSimpArgs false
section
variable {P : Program} {w : World} {F : Nat → Prop} {B : BM} {H : List Blk} {a : Act} {ρ : Operand → AV}
theorem ResOk.of_val {o : Oper} {r : Res} (h : ∃ x, r = .val x ∧ ValOk P w F B a o x) : ResOk P w F B H a o r := by
  obtain ⟨x, rfl, h⟩ := h
  exact h
theorem ResOk.of_new {o : Oper} {r : Res} (h : ∃ x blk, r = .new x blk ∧ NewOk P w F B H.length a o x blk) : ResOk P w F B H a o r := by
  obtain ⟨x, blk, rfl, h⟩ := h
  exact .inl h.any
theorem ResOk.of_ali {o : Oper} {r : Res} (h : (∃ x, r = .val x ∧ ValOk P w F B a o x) ∨ ∃ x blk, r = .new x blk ∧ AliOk P w F B H a o x blk) : ResOk P w F B H a o r := by
  rcases h with ⟨x, rfl, h⟩ | ⟨x, blk, rfl, h⟩
  · exact h
  · exact .inr h
theorem ResOk.of_upd {o : Oper} {r : Res} (h : ∃ x i blk, r = .upd x i blk ∧ UpdOk P w F B H a o x i blk) : ResOk P w F B H a o r := by
  obtain ⟨x, i, blk, rfl, h⟩ := h
  exact h
theorem splice_blk {b g ver off : Nat} {c : Option Nat} {blk : Blk} {vs : List Value} {us : List AV} (hR : HR w F B H) (hB : B b = some (g, ver, c)) (hk : H[b]? = some blk) (hv : blk.ver = ver) (hkd : blk.kind = .cells) (hbr : BRelC w (Forb F B) B blk g c)
    (hle : off + us.length ≤ blk.cells.length) (hus : VRL w (Forb F B) B us vs) (h1 : ∀ v ∈ vs, v.oneCell' = true) :
    ∃ w', (storeCells ⟨g, off, none⟩ vs).run P w = .ok () w' ∧ Ext w B w' B ∧ HR w' F B (H.set b { blk with cells := splice blk.cells off us }) := by
  obtain ⟨cur, ys, rest, q1, q2, q3, q4, q5⟩ := hbr
  have hl1 := hus.length
  have hl2 := q3.length
  have hcl : cur.toList.length = cur.size := Array.length_toList
  rw [q2, List.length_append] at hcl
  obtain ⟨cur', r1, r2⟩ := run_storeCells (P := P) (off := off) vs 0 w cur q1 (by omega) h1
  rw [Nat.add_zero] at r2
  have r3 : cur'.toList = (ys.take off ++ vs ++ ys.drop (off + vs.length)) ++ rest := by
    rw [r2, q2, List.take_append_of_le_length (by omega), List.drop_append_of_le_length (by omega)]
    simp only [List.append_assoc]
  have hnew : VRL w (Forb F B) B (splice blk.cells off us) (ys.take off ++ vs ++ ys.drop (off + vs.length)) := by
    unfold splice
    rw [hl1]
    exact VRL.append (VRL.append (VRL.take off q3) hus) (VRL.drop _ q3)
  have hsize : cur'.size = cur.size := by
    have e1 : cur'.toList.length = cur'.size := Array.length_toList
    rw [r3] at e1
    simp only [List.length_append, List.length_take, List.length_drop] at e1
    omega
  obtain ⟨hE, hR'⟩ := upd_same hR hB hk hv.symm hkd q1 hsize r3 hnew (fun u hu => by
    rcases List.mem_append.1 hu with hu | hu
    · rcases List.mem_append.1 hu with hu | hu
      · exact q4 u (List.mem_of_mem_take hu)
      · exact h1 u hu
    · exact q4 u (List.mem_of_mem_drop hu)) q5
  exact ⟨_, r1, hE, hR'⟩
theorem op_clear (hH : HRw w F B H) (hρ : ∀ x, VR w (Forb F B) B (ρ x) (a.eval x)) {o : Oper} {c : Call} (ho : o.op = .call c) (hc : c.callee = .builtin .clear) {r : Res} (h : aop P H ρ o = some r) : ResOk P w F B H a o r := by
  simp only [aop, ho, hc] at h
  split at h <;> try (cases h; done)
  rename_i x t hargs htys
  split at h <;> try (cases h; done)
  rename_i e hu
  have ea : c.args = #[x] := by rw [← Array.toList_inj]; exact hargs
  have et : c.argTypes = #[t] := by rw [← Array.toList_inj]; exact htys
  have hx := hρ x
  have hrun : ∀ v w', (Builtin.clear_ #[t] o.type #[a.eval x]).run P w = .ok v w' → (execOp a.eval o).run P w = .ok (.value v) w' := by
    intro v w' hr
    obtain ⟨cs', hcs'⟩ := run_call (a := a) ho hc
    rw [hcs', ea, et]
    simp only [builtin, List.map_toArray, List.map_cons, List.map_nil, Sem.run_bind, hr, Result.andThen_ok, Sem.run_pure]
  have hnil : ∀ A c, a.eval x = .slice A 0 c → ValOk P w F B a o (.tup []) := by
    intro A c e1
    refine ⟨.tuple #[], hrun _ _ ?_, by simp only [VR]; exact ⟨#[], rfl, by simp only [VRL]⟩⟩
    rw [e1]
    simp only [Builtin.clear_, List.getElem?_toArray, List.getElem?_cons_zero, Sem.run_bind, run_under hu, Result.andThen_ok]
    cases A <;> rfl
  split at h
  · rename_i sz e1
    cases h
    rw [e1] at hx
    simp only [VR] at hx
    obtain ⟨A, cap, _, hv, _⟩ := hx
    exact hnil A cap hv
  · rename_i b o1 len sz ver e1
    split at h <;> try (cases h; done)
    rename_i blk i hb hi
    split at h <;> try (cases h; done)
    rename_i zv hz
    split at h <;> try (cases h; done)
    rename_i hcond
    simp only [Bool.and_eq_true, decide_eq_true_eq, beq_iff_eq] at hcond
    obtain ⟨⟨⟨⟨hpos, hsz⟩, hzs⟩, hone⟩, hle⟩ := hcond
    rw [e1] at hx
    obtain ⟨g, cap, cc, hv, hB, hcap, hcc, hbr⟩ := own_at hH hx hb
    obtain ⟨hk, hver, hkd⟩ := blkAt_some hb
    by_cases h0 : len = 0
    · rw [if_pos h0] at h
      cases h
      subst h0
      exact hnil _ _ hv
    · rw [if_neg h0] at h
      cases h
      intro hR
      obtain ⟨k, rfl⟩ : ∃ k, len = k + 1 := ⟨len - 1, by omega⟩
      have hzl := zeros_list zv.cells (by omega) (k + 1)
      obtain ⟨w', r1, hE, hR'⟩ := splice_blk (P := P) (off := o1 * sz) (us := (List.replicate (k + 1) (zv.cells.toList.map AV.sc)).flatten) (vs := (List.replicate (k + 1) zv.cells.toList).flatten) hR hB hk hver hkd hbr
        (by rw [zeros_av, List.length_map]; simp [hzs, ← hsz]; rw [← Nat.add_mul]; exact hle) (by rw [zeros_av]; exact VRL.sc _) (zeros_one hone _)
      refine ⟨_, w', B, hrun (.tuple #[]) w' ?_, .inl ⟨_, rfl, by simp only [VR]; exact ⟨#[], rfl, by simp only [VRL]⟩⟩, hE, hR', fun _ h => h, _, hB⟩
      rw [hv]
      simp only [Builtin.clear_, List.getElem?_toArray, List.getElem?_cons_zero, Sem.run_bind, run_under hu, Result.andThen_ok, run_zero hi hz, Builtin.zeroCells, hzl, r1, Sem.run_pure]
  · exact ResOk.of_val (ValOk.of_sop hρ h)
theorem op_copy (hH : HRw w F B H) (hρ : ∀ x, VR w (Forb F B) B (ρ x) (a.eval x)) {o : Oper} {c : Call} (ho : o.op = .call c) (hc : c.callee = .builtin .copy) {r : Res} (h : aop P H ρ o = some r) : ResOk P w F B H a o r := by
  simp only [aop, ho, hc] at h
  split at h <;> try (cases h; done)
  rename_i x y t u hargs htys
  split at h <;> try (cases h; done)
  rename_i htu
  subst htu
  split at h <;> try (cases h; done)
  rename_i e hu
  split at h <;> try (cases h; done)
  rename_i s hs
  split at h <;> try (cases h; done)
  rename_i hpos
  split at h <;> try (cases h; done)
  rename_i b o1 len sz ver cs m e1 hel
  split at h <;> try (cases h; done)
  rename_i blk hb
  split at h <;> try (cases h; done)
  rename_i hcond
  simp only [Bool.and_eq_true, decide_eq_true_eq] at hcond
  obtain ⟨⟨hsz, hone⟩, hle⟩ := hcond
  subst hsz
  have ea : c.args = #[x, y] := by rw [← Array.toList_inj]; exact hargs
  have et : c.argTypes = #[t, t] := by rw [← Array.toList_inj]; exact htys
  have hx := hρ x
  rw [e1] at hx
  obtain ⟨g, cap, cc, hv, hB, hcap, hcc, hbr⟩ := own_at hH hx hb
  obtain ⟨hk, hver, hkd⟩ := blkAt_some hb
  obtain ⟨A, cp, ys, hvy, hys, hlen, hmem⟩ := elems_at hH (hρ y) hel hpos
  have hy1 := one_cell hys hone
  have hyl := hys.length
  have hrun : ∀ v w', (Builtin.copy_ #[t, t] o.type #[a.eval x, a.eval y]).run P w = .ok v w' → (execOp a.eval o).run P w = .ok (.value v) w' := by
    intro v w' hr
    obtain ⟨cs', hcs'⟩ := run_call (a := a) ho hc
    rw [hcs', ea, et]
    simp only [builtin, List.map_toArray, List.map_cons, List.map_nil, Sem.run_bind, hr, Result.andThen_ok, Sem.run_pure]
  by_cases h0 : min m len = 0
  · rw [if_pos h0] at h
    cases h
    refine ⟨.int .i64 0, hrun _ _ ?_, by simp only [VR]⟩
    rw [hv, hvy]
    have hn : Nat.min m len = 0 := h0
    have e0 : (Builtin.firstCells sz 0 (.slice A m cp)).run P w = .ok #[] w := by cases A <;> simp [Builtin.firstCells, loadCells, loadCellsFrom]
    simp only [Builtin.copy_, List.getElem?_toArray, List.getElem?_cons_zero, List.getElem?_cons_succ, Sem.run_bind, run_under hu, Result.andThen_ok, Builtin.lenOf, Sem.run_pure, hn, run_szOf hs, e0, storeCells, goInt]
    rfl
  · rw [if_neg h0] at h
    cases h
    intro hR
    obtain ⟨a0, rfl, hcell⟩ := hmem (by omega)
    have hml : min m len * sz ≤ m * sz := Nat.mul_le_mul_right _ (Nat.min_le_left _ _)
    have hll : min m len * sz ≤ len * sz := Nat.mul_le_mul_right _ (Nat.min_le_right _ _)
    rw [Nat.add_mul] at hle
    obtain ⟨w', r1, hE, hR'⟩ := splice_blk (P := P) (off := o1 * sz) (us := cs.take (min m len * sz)) (vs := ys.take (min m len * sz)) hR hB hk hver hkd hbr (by rw [List.length_take]; omega) (VRL.take _ hys) (fun v hv => hy1 v (List.mem_of_mem_take hv))
    refine ⟨_, w', B, hrun (.int .i64 (min m len : Nat)) w' ?_, .inl ⟨_, rfl, by simp only [VR]⟩, hE, hR', fun _ h => h, _, hB⟩
    rw [hv, hvy]
    have hn : Nat.min m len = min m len := rfl
    have e0 : (Builtin.firstCells sz (min m len) (.slice (some a0) m cp)).run P w = .ok (ys.take (min m len * sz)).toArray w := by
      simp only [Builtin.firstCells, loadCells]
      rw [run_cells a0 (min m len * sz) 0 #[] (ys.take (min m len * sz)) (by rw [List.length_take]; omega) (fun j y hj => by
        rw [Nat.zero_add]
        rw [List.getElem?_take] at hj
        split at hj
        · exact hcell _ _ hj
        · cases hj)]
      simp
    simp only [Builtin.copy_, List.getElem?_toArray, List.getElem?_cons_zero, List.getElem?_cons_succ, Sem.run_bind, run_under hu, Result.andThen_ok, Builtin.lenOf, Sem.run_pure, hn, run_szOf hs, e0, goInt, List.toList_toArray, r1]
theorem aop_sound (hH : HRw w F B H) (hρ : ∀ x, VR w (Forb F B) B (ρ x) (a.eval x)) {o : Oper} {r : Res} (h : aop P H ρ o = some r) : ResOk P w F B H a o r := by
  cases ho : o.op with
  | move x => exact .of_val (op_move hρ (.inl ho) h)
  | assign x => exact .of_val (op_move hρ (.inr ho) h)
  | pick c x y => exact .of_val (op_pick hρ ho h)
  | alloc e => exact .of_new (op_alloc ho h)
  | box e x => exact .of_new (op_box hρ ho h)
  | build t parts => exact .of_val (op_build ho hρ h)
  | buildSlice t n parts => exact .of_new (op_buildSlice hρ ho h)
  | load t x => exact .of_val (op_load hH hρ ho h)
  | store t x y => exact .of_upd (op_store hρ ho h)
  | nilCheck x => exact .of_val (op_nilCheck hρ ho h)
  | binOp op t x y yt => exact .of_val (op_binOp hH hρ ho h)
  | makeFunc fn x y => exact .of_val (op_makeFunc hρ ho h)
  | makeInterface t x => exact .of_val (op_makeInterface hρ ho h)
  | makeSlice t l c => exact .of_new (op_makeSlice hρ ho h)
  | slice t x lo hi mx => exact .of_ali (op_slice hH hρ ho h)
  | fieldAddr t x f => exact .of_val (op_fieldAddr hH hρ ho h)
  | field t x f => exact .of_val (op_field hρ ho h)
  | indexAddr t x i => exact .of_val (op_indexAddr hH hρ ho h)
  | index t x i => exact .of_val (op_index hρ ho h)
  | makeMap t q =>
    obtain ⟨x, blk, rfl, hh⟩ := op_makeMap hρ ho h
    exact .inl hh
  | lookup t x k ok => exact .of_val (op_lookup hH hρ ho h)
  | mapUpdate t m k x => exact .of_upd (op_mapUpdate hH hρ (.inl ho) h)
  | insert t m k x => exact .of_upd (op_mapUpdate hH hρ (.inr ho) h)
  | mapEntry t m k => exact .of_upd (op_mapEntry hH hρ ho h)
  | entryStore t m s x => exact .of_upd (op_entryStore hH hρ ho h)
  | convert s t x => exact .of_val (op_convert hH hρ ho h)
  | extract x i => exact .of_val (op_extract hρ ho h)
  | call c =>
    cases hc : c.callee with
    | builtin b =>
      cases b with
      | len => exact .of_val (op_len hH hρ ho hc h)
      | unsafeSliceData => exact .of_val (op_sliceData hH hρ ho hc h)
      | unsafeString => exact op_unsafeString hρ ho hc h
      | append => exact op_append hH hρ ho hc h
      | clear => exact op_clear hH hρ ho hc h
      | copy => exact op_copy hH hρ ho hc h
      | _ => exact .of_val (ValOk.of_sop hρ (by simpa only [aop, ho, hc] using h))
    | _ => simp only [aop, ho, hc] at h; cases h
  | _ => exact .of_val (ValOk.of_sop hρ (by simpa only [aop, ho] using h))
end
end Go.Proofs.YtpgipdajinkdgaaGreatA

namespace Go.Proofs.YtpgipdajinkdgaaGreatA
open Go Go.RowKit
set_option linter.all false
set_option linter.unusedSectionVars false
set_option linter.constructorNameAsVariable false
set_option linter.unusedVariables false
set_option linter.unusedSimpArgs false
theorem ali_sound {P : Program} {w : World} {F : Nat → Prop} {B : BM} {H Hb Hb' : List Blk} {a : Act} {o : Oper} {x : AV} {blk : Blk} (hN : AliOk P w F B H a o x blk) (hfresh : B H.length = none) (hR : HR w F B Hb) (hn : Hb'[H.length]? = some blk) (hag : ∀ b e, B b = some e → Hb'[b]? = Hb[b]?) (hH : ∀ (b : Nat) (x : Blk), H[b]? = some x → Hb[b]? = some x) :
    ∃ v w' B', (execOp a.eval o).run P w = .ok (.value v) w' ∧ Ext w B w' B' ∧ HR w' F B' Hb' ∧ VR w' (Forb F B') B' x v ∧ (∃ e, B' H.length = some e) ∧ ∀ b, b ≠ H.length → B' b = B b := by
  obtain ⟨v, b0, g, ver, c, blkb, hrun, hB, hk0, hkb, hka, hver, hle, hbr, hx⟩ := hN
  obtain ⟨n, hnd⟩ : ∃ n, n = H.length := ⟨_, rfl⟩
  rw [← hnd] at hfresh hn hx ⊢
  let B' : BM := fun b => if b = n then some (g, 0, none) else B b
  have hBn : B' n = some (g, 0, none) := by simp [B']
  have hBo : ∀ b, b ≠ n → B' b = B b := fun b hb => by simp [B', hb]
  have hb0 : b0 ≠ n := fun e => by rw [e, hfresh] at hB; cases hB
  have hkb' : Hb'[b0]? = some blkb := by rw [hag b0 _ hB]; exact hH _ _ hk0
  have hE : Ext w B w B' := by
    refine ⟨rfl, rfl, rfl, Nat.le_refl _, Nat.le_refl _, fun i hi ho => ⟨rfl, ?_⟩, fun b g v c hb => ⟨g, v, c, ?_, Nat.le_refl _, fun _ => ⟨rfl, rfl⟩⟩⟩
    · rintro ⟨b, v1, c1, hb⟩
      by_cases hbn : b = n
      · subst hbn
        rw [hBn] at hb
        cases hb
        exact ho ⟨b0, ver, c, hB⟩
      · rw [hBo b hbn] at hb; exact ho ⟨b, v1, c1, hb⟩
    · rw [hBo b (fun e => by rw [e, hfresh] at hb; cases hb)]; exact hb
  -- whoever lies in the row's block is the row, or what it began with
  have hsh : ∀ b2 v2 c2, b2 ≠ n → B b2 = some (g, v2, c2) → Shared Hb' n b2 := fun b2 v2 c2 hne h2 => by
    rcases hR.inj b0 b2 g ver v2 c c2 hB h2 with h | h
    · subst h
      exact ⟨blk, blkb, hn, hkb', .inr (.inr ⟨hka, hkb, hle⟩)⟩
    · obtain ⟨x1, y1, e1, e2, h⟩ := h
      rw [← hag b0 _ hB, hkb'] at e1
      cases e1
      rw [← hag b2 _ h2] at e2
      rcases h with h | h | h
      · rw [hkb] at h; exact absurd h.1 (by simp)
      · exact ⟨blk, y1, hn, e2, .inl ⟨hka, h.2.1⟩⟩
      · rw [hkb] at h; exact absurd h.1 (by simp)
  refine ⟨v, w, B', hrun, hE, ⟨?_, ?_, ?_, hR.lt⟩, hx _ _ _ hBn, ⟨_, hBn⟩, hBo⟩
  · intro b g1 v1 c1 hb
    by_cases hbn : b = n
    · subst hbn
      rw [hBn] at hb
      cases hb
      refine ⟨blk, hn, hver.symm, ?_⟩
      simp only [BRel, hka]
      obtain ⟨cur, ys, rest, p1, p2, p3, p4⟩ := hbr
      exact ⟨cur, ys, rest, p1, p2, p3.ext hE, p4⟩
    · rw [hBo b hbn] at hb
      obtain ⟨blk1, k1, k2, p1⟩ := hR.at_ b g1 v1 c1 hb
      exact ⟨blk1, by rw [hag b _ hb]; exact k1, k2, p1.ext hE rfl⟩
  · intro b1 b2 g1 v1 v2 c1 c2 h1 h2
    by_cases n1 : b1 = n <;> by_cases n2 : b2 = n
    · exact .inl (by rw [n1, n2])
    · subst n1
      rw [hBn] at h1
      rw [hBo b2 n2] at h2
      cases h1
      exact .inr (hsh b2 _ _ n2 h2)
    · subst n2
      rw [hBn] at h2
      rw [hBo b1 n1] at h1
      cases h2
      exact .inr (hsh b1 _ _ n1 h1).symm
    · rw [hBo b1 n1] at h1
      rw [hBo b2 n2] at h2
      exact (hR.inj _ _ _ _ _ _ _ h1 h2).imp id fun h => h.mono (hag _ _ h1) (hag _ _ h2)
  · intro b g1 v1 c1 hb hF
    by_cases hbn : b = n
    · subst hbn
      rw [hBn] at hb
      cases hb
      exact hR.nf _ _ _ _ hB hF
    · rw [hBo b hbn] at hb; exact hR.nf _ _ _ _ hb hF
theorem new_sound {P : Program} {w : World} {F : Nat → Prop} {B : BM} {Hb Hb' : List Blk} {n : Nat} {a : Act} {o : Oper} {x : AV} {blk : Blk} (hN : NewOk' P w F B n a o x blk) (hfresh : B n = none) (hR : HR w F B Hb) (hn : Hb'[n]? = some blk) (hag : ∀ b e, B b = some e → Hb'[b]? = Hb[b]?) :
    ∃ v w' B', (execOp a.eval o).run P w = .ok (.value v) w' ∧ Ext w B w' B' ∧ HR w' F B' Hb' ∧ VR w' (Forb F B') B' x v ∧ (∃ e, B' n = some e) ∧ ∀ b, b ≠ n → B' b = B b := by
  obtain ⟨v, w', c, hrun, e1, e2, e3, hsz, hold, hnew, hver, hx⟩ := hN
  let B' : BM := fun b => if b = n then some (w.heap.size, 0, c) else B b
  have hBn : B' n = some (w.heap.size, 0, c) := by simp [B']
  have hBo : ∀ b, b ≠ n → B' b = B b := fun b hb => by simp [B', hb]
  have hlt : ∀ b g v c, B b = some (g, v, c) → g < w.heap.size := fun b g v c h => by
    obtain ⟨_, _, _, p1⟩ := hR.at_ b g v c h
    exact p1.lt
  have hE : Ext w B w' B' := by
    refine ⟨e1, e2, e3, Nat.le_of_lt hsz, run_drawn _ hrun, fun i hi ho => ⟨hold i hi, ?_⟩, fun b g v c hb => ⟨g, v, c, ?_, Nat.le_refl _, fun _ => ⟨rfl, rfl⟩⟩⟩
    · rintro ⟨b, v1, c1, hb⟩
      by_cases hbn : b = n
      · subst hbn; rw [hBn] at hb; cases hb; omega
      · rw [hBo b hbn] at hb; exact ho ⟨b, v1, c1, hb⟩
    · rw [hBo b (fun e => by rw [e, hfresh] at hb; cases hb)]; exact hb
  refine ⟨v, w', B', hrun, hE, ⟨?_, ?_, ?_, fun i hi => Nat.lt_trans (hR.lt i hi) hsz⟩, hx _ _ _ hBn, ⟨_, hBn⟩, hBo⟩
  · intro b g v1 c1 hb
    by_cases hbn : b = n
    · subst hbn
      rw [hBn] at hb
      cases hb
      exact ⟨blk, hn, hver.symm, hnew B' hE⟩
    · rw [hBo b hbn] at hb
      obtain ⟨blk1, k1, k2, p1⟩ := hR.at_ b g v1 c1 hb
      exact ⟨blk1, by rw [hag b _ hb]; exact k1, k2, p1.ext hE (hold g p1.lt)⟩
  · intro b1 b2 g v1 v2 c1 c2 h1 h2
    by_cases n1 : b1 = n <;> by_cases n2 : b2 = n
    · exact .inl (by rw [n1, n2])
    · subst n1; rw [hBn] at h1; rw [hBo b2 n2] at h2; cases h1; have := hlt _ _ _ _ h2; omega
    · subst n2; rw [hBn] at h2; rw [hBo b1 n1] at h1; cases h2; have := hlt _ _ _ _ h1; omega
    · rw [hBo b1 n1] at h1; rw [hBo b2 n2] at h2; exact (hR.inj _ _ _ _ _ _ _ h1 h2).imp id fun h => h.mono (hag _ _ h1) (hag _ _ h2)
  · intro b g v1 c1 hb hF
    by_cases hbn : b = n
    · subst hbn; rw [hBn] at hb; cases hb; have := hR.lt _ hF; omega
    · rw [hBo b hbn] at hb; exact hR.nf _ _ _ _ hb hF
theorem made_sound {P : Program} {w : World} {F : Nat → Prop} {B : BM} {H Hb Hb' : List Blk} {a : Act} {o : Oper} {x : AV} {blk : Blk} (hN : NewOk' P w F B H.length a o x blk ∨ AliOk P w F B H a o x blk) (hfresh : B H.length = none) (hR : HR w F B Hb) (hn : Hb'[H.length]? = some blk) (hag : ∀ b e, B b = some e → Hb'[b]? = Hb[b]?) (hH : ∀ (b : Nat) (x : Blk), H[b]? = some x → Hb[b]? = some x) :
    ∃ v w' B', (execOp a.eval o).run P w = .ok (.value v) w' ∧ Ext w B w' B' ∧ HR w' F B' Hb' ∧ VR w' (Forb F B') B' x v ∧ (∃ e, B' H.length = some e) ∧ ∀ b, b ≠ H.length → B' b = B b :=
  hN.elim (fun h => new_sound h hfresh hR hn hag) (fun h => ali_sound h hfresh hR hn hag hH)
theorem chunks_len {sz : Nat} : ∀ {n : Nat} {l : List AV}, (chunks sz n l).length = n
  | 0, _ => rfl
  | n + 1, l => by simp [chunks, chunks_len]
theorem chunks_row {sz : Nat} : ∀ {n : Nat} {l : List AV}, l.length = n * sz → ∀ r ∈ chunks sz n l, r.length = sz
  | 0, _, _, r, hr => by cases hr
  | n + 1, l, hl, r, hr => by
    rw [Nat.add_mul, Nat.one_mul] at hl
    simp only [chunks, List.mem_cons] at hr
    rcases hr with rfl | hr
    · rw [List.length_take]; omega
    · exact chunks_row (by rw [List.length_drop]; omega) r hr
theorem chunks_flat {sz : Nat} : ∀ {n : Nat} {l : List AV}, l.length = n * sz → (chunks sz n l).flatten = l
  | 0, l, hl => by rw [Nat.zero_mul] at hl; rw [List.eq_nil_of_length_eq_zero hl]; rfl
  | n + 1, l, hl => by
    rw [Nat.add_mul, Nat.one_mul] at hl
    simp only [chunks, List.flatten_cons]
    rw [chunks_flat (by rw [List.length_drop]; omega), List.take_append_drop]
theorem amap_sound {w : World} {Fb Fb' : Nat → Prop} {B B' : BM} {f : AV → Option AV} (hf : ∀ x y v, f x = some y → VR w Fb B x v → VR w Fb' B' y v) : ∀ {xs ys : List AV} {vs : List Value}, amap f xs = some ys → VRL w Fb B xs vs → VRL w Fb' B' ys vs ∧ ys.length = xs.length
  | [], ys, vs, h, hv => by
    simp only [amap, Option.some.injEq] at h
    subst h
    simp only [VRL] at hv
    exact ⟨by simp only [VRL]; exact hv, rfl⟩
  | x :: xs, ys, vs, h, hv => by
    simp only [amap] at h
    split at h <;> try (cases h; done)
    rename_i y ys' hx hxs
    cases h
    simp only [VRL] at hv
    obtain ⟨v, r, rfl, h1, h2⟩ := hv
    obtain ⟨h3, h4⟩ := amap_sound hf hxs h2
    exact ⟨by simp only [VRL]; exact ⟨v, r, rfl, hf _ _ _ hx h1, h3⟩, by simp [h4]⟩
theorem nil_VR {w : World} {Fb : Nat → Prop} {B : BM} {A : Option Addr} {cap : Nat} : VR w Fb B (.lst 0 []) (.slice A 0 cap) := VR.empty
theorem mkL_ok {w : World} {B : BM} {Fb : Nat → Prop} {sz : Nat} {R : List (List AV)} {v : Value} (h : VR w Fb B (.lst sz R) v) : VR w Fb B (mkL sz R) v := mkL_VR h (.inl rfl)
theorem rb_sound {w : World} {F : Nat → Prop} {B : BM} {H : List Blk} (hH : HRw w F B H) (hnf : ∀ b g v c, B b = some (g, v, c) → ¬ F g) : ∀ (k : Nat) (x y : AV) (v : Value), rb H k x = some y → VR w (Forb F B) B x v → VR w F BM.none y v
  | 0, _, _, _, h, _ => by simp only [rb] at h; cases h
  | k + 1, x, y, v, h, hv => by
    have ih := rb_sound hH hnf k
    have hm : ∀ (a : Addr) (y : Value), ¬ Forb F B a.block → w.cell? a = some y → w.cell? a = some y ∧ ¬ F a.block := fun a y hf hc => ⟨hc, fun h => hf (.inl h)⟩
    cases x with
    | agg cs =>
      simp only [rb] at h
      obtain ⟨l, hl, rfl⟩ := Option.map_eq_some_iff.1 h
      simp only [VR] at hv ⊢
      obtain ⟨c, e, hv⟩ := hv
      exact ⟨c, e, (amap_sound ih hl hv).1⟩
    | tup cs =>
      simp only [rb] at h
      obtain ⟨l, hl, rfl⟩ := Option.map_eq_some_iff.1 h
      simp only [VR] at hv ⊢
      obtain ⟨c, e, hv⟩ := hv
      exact ⟨c, e, (amap_sound ih hl hv).1⟩
    | fn f cs =>
      simp only [rb] at h
      obtain ⟨l, hl, rfl⟩ := Option.map_eq_some_iff.1 h
      simp only [VR] at hv ⊢
      obtain ⟨c, e, hv⟩ := hv
      exact ⟨c, e, (amap_sound ih hl hv).1⟩
    | ifc t x =>
      simp only [rb] at h
      obtain ⟨l, hl, rfl⟩ := Option.map_eq_some_iff.1 h
      simp only [VR] at hv ⊢
      obtain ⟨u, e, hv⟩ := hv
      exact ⟨u, e, ih _ _ _ hl hv⟩
    | own b o len sz ver =>
      simp only [rb] at h
      split at h <;> try (cases h; done)
      rename_i blk hb
      split at h <;> try (cases h; done)
      rename_i cs hcs
      obtain ⟨l, hl, rfl⟩ := Option.map_eq_some_iff.1 h
      obtain ⟨g, cap, c, rfl, hB, hcap, hbr⟩ := own_atR hH hv hb
      obtain ⟨ys, hys, hlen, h1, hc⟩ := rd_memA hbr hcs
      obtain ⟨h3, h4⟩ := amap_sound ih hl hys
      have hll : l.length = len * sz := by rw [h4, hlen]
      refine mkL_ok ?_
      simp only [VR]
      refine ⟨_, cap, ys, by rw [chunks_len], by rw [chunks_len]; exact hcap, chunks_row hll, ?_, h1, .inr ⟨_, rfl, hnf b g ver c hB, hc⟩⟩
      rw [VRR.flat, chunks_flat hll]
      exact h3
    | ptr b off ver =>
      simp only [rb] at h
      split at h <;> try (cases h; done)
      rename_i blk hb
      obtain ⟨l, hl, rfl⟩ := Option.map_eq_some_iff.1 h
      obtain ⟨g, c, rfl, hB, hbr⟩ := ptr_at hH hv hb
      obtain ⟨ys, hys, h1, hc⟩ := brel_cells hbr
      obtain ⟨h3, h4⟩ := amap_sound ih hl (VRL.drop off hys)
      simp only [VR]
      refine ⟨_, ys.drop off, rfl, h3, fun y hy => h1 y (List.mem_of_mem_drop hy), .inr ⟨_, rfl, hnf b g ver c hB, fun j y hj => ?_⟩⟩
      rw [List.getElem?_drop] at hj
      have := hc _ _ hj
      rw [addr_add, Nat.zero_add] at this
      rwa [addr_add]
    | bad => simp only [rb, Option.some.injEq] at h; subst h; simp only [VR]
    | mp b ver => simp only [rb] at h; cases h
    | sc u =>
      simp only [VR] at hv
      subst hv
      unfold rb at h
      split at h <;> (try (rename_i e; cases e; done))
      all_goals first
        | (rename_i e; injection e with e; subst e; cases h; exact nil_VR)
        | (cases h; simp only [VR]; done)
        | (simp only [Option.some.injEq] at h; subst h; simp only [VR]; done)
        | skip
    | z =>
      simp only [rb, Option.some.injEq] at h
      subst h
      simp only [VR] at hv
      obtain ⟨A, rfl⟩ := hv
      exact nil_VR
    | lst sz rows =>
      simp only [rb, Option.some.injEq] at h
      subst h
      simp only [VR] at hv
      obtain ⟨A, cap, ys, e, hl, hr, h1, hM⟩ := hv
      refine mkL_ok ?_
      simp only [VR]
      exact ⟨A, cap, ys, e, hl, hr, VRR.mono hm _ _ h1, hM.mono hm⟩
    | ro cs =>
      simp only [rb] at h
      obtain ⟨l, hl, rfl⟩ := Option.map_eq_some_iff.1 h
      simp only [VR] at hv ⊢
      obtain ⟨a0, ys, e, h1, hM⟩ := hv
      have h2 := VRL.mono (w := w) (w' := w) (Fb := Forb F B) (Fb' := Forb F B) (fun a y hf hc => ⟨hc, hf⟩) _ _ B (BLe.none B) _ h1
      exact ⟨a0, ys, e, (amap_sound ih hl h2).1, hM.mono hm⟩
mutual
theorem pv_sound {w : World} {Fb : Nat → Prop} {B : BM} : ∀ (k : Nat) (x : AV) (v : Value), pv k x = true → VR w Fb B x v → VR w Fb BM.none x v
  | 0, _, _, h, _ => by simp only [pv] at h; cases h
  | k + 1, x, v, h, hv => by
    cases x with
    | agg cs => simp only [pv] at h; simp only [VR] at hv ⊢; obtain ⟨c, e, hv⟩ := hv; exact ⟨c, e, pvl_sound k cs _ h hv⟩
    | tup cs => simp only [pv] at h; simp only [VR] at hv ⊢; obtain ⟨c, e, hv⟩ := hv; exact ⟨c, e, pvl_sound k cs _ h hv⟩
    | fn f cs => simp only [pv] at h; simp only [VR] at hv ⊢; obtain ⟨c, e, hv⟩ := hv; exact ⟨c, e, pvl_sound k cs _ h hv⟩
    | ifc t y => simp only [pv] at h; simp only [VR] at hv ⊢; obtain ⟨u, e, hv⟩ := hv; exact ⟨u, e, pv_sound k y u h hv⟩
    | own => simp only [pv] at h; cases h
    | ptr => simp only [pv] at h; cases h
    | mp => simp only [pv] at h; cases h
    | bad => simp only [VR]
    | sc u => simp only [VR] at hv ⊢; exact hv
    | z => simp only [VR] at hv ⊢; exact hv
    | lst sz rows => simp only [VR] at hv ⊢; exact hv
    | ro cs => simp only [VR] at hv ⊢; exact hv
theorem pvl_sound {w : World} {Fb : Nat → Prop} {B : BM} : ∀ (k : Nat) (xs : List AV) (vs : List Value), xs.all (pv k) = true → VRL w Fb B xs vs → VRL w Fb BM.none xs vs
  | _, [], _, _, hv => by simp only [VRL] at hv ⊢; exact hv
  | k, x :: xs, vs, h, hv => by
    simp only [List.all_cons, Bool.and_eq_true] at h
    simp only [VRL] at hv ⊢
    obtain ⟨v, r, e, h1, h2⟩ := hv
    exact ⟨v, r, e, pv_sound k x v h.1 h1, pvl_sound k xs r h.2 h2⟩
end
def CallOk (P : Program) (f : FuncId) (args : List AV) (H : List Blk) (r : AV) (H' : List Blk) : Prop :=
  ∀ w F B vs, HR w F B H → Full B H → VRL w (Forb F B) B args vs →
    Calls P f vs.toArray w fun e w' => ∃ v B', e = .returned v ∧ Ext w B w' B' ∧ HR w' F B' H' ∧ Full B' H' ∧ VR w' (Forb F B') B' r v
def Enter (P : Program) (f : FuncId) : Prop := ∃ fn, P.funcs[f]? = some fn ∧ fn.name ≠ "runtime.NumGoroutine" ∧ fn.body.isSome = true
def FunOk (P : Program) (call : Fun) : Prop := ∀ f args H r H', call f args H = some (r, H') → Enter P f ∧ CallOk P f args H r H'
def PureOk (P : Program) (f : FuncId) (args : List AV) (H : List Blk) (r : AV) : Prop :=
  ∀ w F B vs Hb, HR w F B Hb → HRw w F B H → VRL w (Forb F B) B args vs →
    Calls P f vs.toArray w fun e w' => ∃ v, e = .returned v ∧ Ext w B w' B ∧ HR w' F B Hb ∧ VR w' (Forb F B) B r v
theorem own_lt {w : World} {F : Nat → Prop} {B : BM} {H : List Blk} (hR : HR w F B H) {i : Nat} (h : Own B i) : i < w.heap.size := by
  obtain ⟨b, v, c, hb⟩ := h
  obtain ⟨_, _, _, p1⟩ := hR.at_ b i v c hb
  exact p1.lt
theorem none_own {i : Nat} : ¬ Own BM.none i := fun ⟨_, _, _, h⟩ => by cases h
theorem HR.empty {w : World} {F : Nat → Prop} (h : ∀ i, F i → i < w.heap.size) : HR w F BM.none [] :=
  ⟨(fun _ _ _ _ h => by cases h), (fun _ _ _ _ _ _ _ h => by cases h), (fun _ _ _ _ h => by cases h), h⟩
theorem ext_of_empty {w w' : World} {F : Nat → Prop} {B B1 : BM} {H : List Blk} (hR : HR w F B H) (h : Ext w BM.none w' B1) : Ext w B w' B ∧ HR w' F B H := by
  have hE : Ext w B w' B := ⟨h.os, h.tape, h.output, h.size, h.drawn, fun i hi ho => ⟨(h.keep i hi none_own).1, ho⟩, BLe.refl B⟩
  refine ⟨hE, fun b g v c hb => ?_, hR.inj, hR.nf, fun i hi => Nat.lt_of_lt_of_le (hR.lt i hi) h.size⟩
  obtain ⟨blk, k1, k2, p1⟩ := hR.at_ b g v c hb
  exact ⟨blk, k1, k2, p1.ext hE (h.keep g p1.lt none_own).1⟩
section
variable {P : Program} {mode : FuncId → Nat} {call : Fun}
theorem rb_none {w : World} {Fb : Nat → Prop} {H : List Blk} {k : Nat} {x y : AV} {v : Value} (h : rb H k x = some y) (hv : VR w Fb BM.none x v) : VR w Fb BM.none y v := by
  have e : Forb Fb BM.none = Fb := by
    funext i
    apply propext
    constructor
    · rintro (h | ⟨b, v, c, h⟩)
      · exact h
      · cases h
    · exact fun h => .inl h
  refine rb_sound (B := BM.none) (H := H) (fun b g v c blk hb => by cases hb) (fun b g v c hb => by cases hb) k x y v h ?_
  rw [e]
  exact hv
theorem rb_sc_any {w : World} {Fb : Nat → Prop} {B : BM} {H : List Blk} {k : Nat} {u : Value} {y : AV} (h : rb H k (.sc u) = some y) : VR w Fb B y u := by
  cases k with
  | zero => simp only [rb] at h; cases h
  | succ k =>
    unfold rb at h
    split at h <;> (try (rename_i e; cases e; done))
    all_goals first
      | (rename_i e; injection e with e; subst e; cases h; exact nil_VR)
      | (simp only [Option.some.injEq] at h; subst h; simp only [VR]; done)
theorem toVs_rb {w w' : World} {Fb Fb' : Nat → Prop} {B B' : BM} {H : List Blk} {k : Nat} : ∀ {xs ys : List AV} {vs : List Value}, (toVs xs).isSome = true → amap (rb H k) xs = some ys → VRL w Fb B xs vs → VRL w' Fb' B' ys vs
  | [], ys, vs, _, h, hv => by
    simp only [amap, Option.some.injEq] at h
    subst h
    simp only [VRL] at hv ⊢
    exact hv
  | x :: xs, ys, vs, hp, h, hv => by
    simp only [amap] at h
    split at h <;> try (cases h; done)
    rename_i y ys' hx hxs
    cases h
    simp only [VRL] at hv
    obtain ⟨v, r, rfl, h1, h2⟩ := hv
    cases x <;> simp only [toVs] at hp <;> try (cases hp; done)
    rename_i u
    simp only [VR] at h1
    subst h1
    simp only [VRL]
    exact ⟨v, r, rfl, rb_sc_any hx, toVs_rb (by simpa using hp) hxs h2⟩
theorem agg_rb {w w' : World} {Fb Fb' : Nat → Prop} {B B' : BM} {H : List Blk} {k : Nat} {cs : List AV} {y : AV} {v : Value} (hp : (toVs cs).isSome = true) (h : rb H k (.agg cs) = some y) (hv : VR w Fb B (.agg cs) v) : VR w' Fb' B' y v := by
  cases k with
  | zero => simp only [rb] at h; cases h
  | succ k =>
    simp only [rb] at h
    obtain ⟨l, hl, rfl⟩ := Option.map_eq_some_iff.1 h
    simp only [VR] at hv ⊢
    obtain ⟨c, e, hv⟩ := hv
    exact ⟨c, e, toVs_rb hp hl hv⟩
theorem tup_rb {w w' : World} {Fb Fb' : Nat → Prop} {B B' : BM} {H : List Blk} {k : Nat} : ∀ {xs ys : List AV} {vs : List Value}, (xs.all fun | .sc _ => true | .agg ds => (toVs ds).isSome | _ => false) = true → amap (rb H k) xs = some ys → VRL w Fb B xs vs → VRL w' Fb' B' ys vs
  | [], ys, vs, _, h, hv => by
    simp only [amap, Option.some.injEq] at h
    subst h
    simp only [VRL] at hv ⊢
    exact hv
  | x :: xs, ys, vs, hp, h, hv => by
    simp only [amap] at h
    split at h <;> try (cases h; done)
    rename_i y ys' hx hxs
    cases h
    simp only [VRL] at hv
    obtain ⟨v, r, rfl, h1, h2⟩ := hv
    simp only [List.all_cons, Bool.and_eq_true] at hp
    simp only [VRL]
    refine ⟨v, r, rfl, ?_, tup_rb hp.2 hxs h2⟩
    cases x <;> simp only [Bool.false_eq_true, false_and] at hp
    · simp only [VR] at h1; subst h1; exact rb_sc_any hx
    · exact agg_rb hp.1 hx h1
theorem plain_rb {w w' : World} {Fb Fb' : Nat → Prop} {B B' : BM} {H : List Blk} {k : Nat} {x y : AV} {v : Value} (hp : plainV x = true) (h : rb H k x = some y) (hv : VR w Fb B x v) : VR w' Fb' B' y v := by
  cases x <;> simp only [plainV] at hp <;> try (cases hp; done)
  · simp only [VR] at hv; subst hv; exact rb_sc_any h
  · exact agg_rb hp h hv
  · cases k with
    | zero => simp only [rb] at h; cases h
    | succ k =>
      simp only [rb] at h
      obtain ⟨l, hl, rfl⟩ := Option.map_eq_some_iff.1 h
      simp only [VR] at hv ⊢
      obtain ⟨c, e, hv⟩ := hv
      exact ⟨c, e, tup_rb hp hl hv⟩
theorem blkR_of {H : List Blk} {b ver : Nat} {blk : Blk} (h : blkAt H b ver = some blk) : blkR H b ver = some blk := by
  unfold blkR
  rw [h]
theorem fresh_ok0 {w w' : World} {F : Nat → Prop} {B B1 : BM} {Hb H1 : List Blk} {r y : AV} {v : Value} {k : Nat} (hR : HR w F B Hb) (hE : Ext w BM.none w' B1) (hR1 : HR w' F B1 H1) (hf : freshR0 H1 r = true) (h : rb H1 k r = some y) (hr : VR w' (Forb F B1) B1 r v) : VR w' (Forb F B) B y v := by
  cases r with
  | own b o len sz ver =>
    cases k with
    | zero => simp only [rb] at h; cases h
    | succ k =>
      simp only [freshR0] at hf
      split at hf <;> try (cases hf; done)
      rename_i blk hb
      simp only [rb, blkR_of hb] at h
      split at h <;> try (cases h; done)
      rename_i cs hcs
      rw [hcs] at hf
      dsimp only at hf
      obtain ⟨l, hl, rfl⟩ := Option.map_eq_some_iff.1 h
      obtain ⟨g, cap, c, rfl, hB, hcap, _, hbr⟩ := own_at hR1.weak hr hb
      obtain ⟨ys, hys, hlen, h1, hc⟩ := rd_mem hbr hcs
      have h2 : VRL w' (Forb F B) BM.none l ys := toVs_rb hf hl hys
      have hll : l.length = len * sz := by have a := h2.length; have b := hys.length; omega
      refine mkL_ok ?_
      simp only [VR]
      refine ⟨_, cap, ys, by rw [chunks_len], by rw [chunks_len]; exact hcap, chunks_row hll, ?_, h1, .inr ⟨_, rfl, ?_, hc⟩⟩
      · rw [VRR.flat, chunks_flat hll]
        exact h2
      · rintro (hF | hO)
        · exact hR1.nf b g ver c hB hF
        · exact (hE.keep g (own_lt hR hO) none_own).2 ⟨b, ver, c, hB⟩
  | _ => exact plain_rb (by simpa only [freshR0] using hf) h hr
theorem deepl_ok {w' : World} {F : Nat → Prop} {B B1 B' : BM} {H1 : List Blk} {k kr : Nat} (hx : ∀ {x y : AV} {v : Value}, deepF H1 k x = true → rb H1 kr x = some y → VR w' (Forb F B1) B1 x v → VR w' (Forb F B) B' y v) : ∀ {xs ys : List AV} {vs : List Value}, xs.all (deepF H1 k) = true → amap (rb H1 kr) xs = some ys → VRL w' (Forb F B1) B1 xs vs → VRL w' (Forb F B) B' ys vs
  | [], ys, vs, _, h, hv => by
    simp only [amap, Option.some.injEq] at h
    subst h
    simp only [VRL] at hv ⊢
    exact hv
  | x :: xs, ys, vs, hp, h, hv => by
    simp only [amap] at h
    split at h <;> try (cases h; done)
    rename_i y ys' hx1 hxs
    cases h
    simp only [VRL] at hv
    obtain ⟨v, r, rfl, h1, h2⟩ := hv
    simp only [List.all_cons, Bool.and_eq_true] at hp
    simp only [VRL]
    exact ⟨v, r, rfl, hx hp.1 hx1 h1, deepl_ok hx hp.2 hxs h2⟩
theorem deep_ok {w w' : World} {F : Nat → Prop} {B B1 : BM} {Hb H1 : List Blk} (hR : HR w F B Hb) (hE : Ext w BM.none w' B1) (hR1 : HR w' F B1 H1) : ∀ (k kr : Nat) (B' : BM) {x y : AV} {v : Value}, deepF H1 k x = true → rb H1 kr x = some y → VR w' (Forb F B1) B1 x v → VR w' (Forb F B) B' y v
  | 0, _, _, x, y, v, hf, _, _ => by simp only [deepF] at hf; cases hf
  | k + 1, 0, _, x, y, v, _, h, _ => by simp only [rb] at h; cases h
  | k + 1, kr + 1, B', x, y, v, hf, h, hr => by
    have ih := fun (B' : BM) {x y : AV} {v : Value} => deep_ok hR hE hR1 k kr B' (x := x) (y := y) (v := v)
    cases x with
    | sc u => simp only [VR] at hr; subst hr; exact rb_sc_any h
    | z =>
      simp only [rb, Option.some.injEq] at h
      subst h
      simp only [VR] at hr ⊢
      obtain ⟨A, rfl⟩ := hr
      exact ⟨A, 0, [], rfl, Nat.le_refl _, (fun _ h => by cases h), (by simp only [VRR]), (fun _ h => by cases h), .inl rfl⟩
    | lst sz rows =>
      cases rows with
      | cons a b => simp only [deepF] at hf; cases hf
      | nil =>
        simp only [rb, mkL, Option.some.injEq] at h
        subst h
        simp only [VR] at hr ⊢
        obtain ⟨A, cap, ys, rfl, hc, _, hys, hm⟩ := hr
        simp only [VRR] at hys
        subst hys
        exact ⟨A, cap, [], rfl, hc, (fun _ h => by cases h), (by simp only [VRR]), (fun _ h => by cases h), .inl rfl⟩
    | agg cs =>
      simp only [deepF] at hf
      simp only [rb] at h
      obtain ⟨l, hl, rfl⟩ := Option.map_eq_some_iff.1 h
      simp only [VR] at hr ⊢
      obtain ⟨c, e, hv⟩ := hr
      exact ⟨c, e, deepl_ok (ih B') hf hl hv⟩
    | tup cs =>
      simp only [deepF] at hf
      simp only [rb] at h
      obtain ⟨l, hl, rfl⟩ := Option.map_eq_some_iff.1 h
      simp only [VR] at hr ⊢
      obtain ⟨c, e, hv⟩ := hr
      exact ⟨c, e, deepl_ok (ih B') hf hl hv⟩
    | own b o len sz ver =>
      simp only [deepF] at hf
      split at hf <;> try (cases hf; done)
      rename_i blk hb
      simp only [rb, blkR_of hb] at h
      split at h <;> try (cases h; done)
      rename_i cs hcs
      rw [hcs] at hf
      dsimp only at hf
      obtain ⟨l, hl, rfl⟩ := Option.map_eq_some_iff.1 h
      obtain ⟨g, cap, c, rfl, hB, hcap, _, hbr⟩ := own_at hR1.weak hr hb
      obtain ⟨ys, hys, hlen, h1, hc⟩ := rd_mem hbr hcs
      have h2 : VRL w' (Forb F B) BM.none l ys := deepl_ok (ih BM.none) hf hl hys
      have hll : l.length = len * sz := by have a := h2.length; have b := hys.length; omega
      refine mkL_ok ?_
      simp only [VR]
      refine ⟨_, cap, ys, by rw [chunks_len], by rw [chunks_len]; exact hcap, chunks_row hll, ?_, h1, .inr ⟨_, rfl, ?_, hc⟩⟩
      · rw [VRR.flat, chunks_flat hll]
        exact h2
      · rintro (hF | hO)
        · exact hR1.nf b g ver c hB hF
        · exact (hE.keep g (own_lt hR hO) none_own).2 ⟨b, ver, c, hB⟩
    | _ => simp only [deepF] at hf; cases hf
theorem fresh_ok {w w' : World} {F : Nat → Prop} {B B1 : BM} {Hb H1 : List Blk} {r y : AV} {v : Value} {k : Nat} (hR : HR w F B Hb) (hE : Ext w BM.none w' B1) (hR1 : HR w' F B1 H1) (hf : freshR H1 r = true) (h : rb H1 k r = some y) (hr : VR w' (Forb F B1) B1 r v) : VR w' (Forb F B) B y v := by
  unfold freshR at hf
  rw [Bool.or_eq_true] at hf
  rcases hf with hf | hf
  · exact fresh_ok0 hR hE hR1 hf h hr
  · exact deep_ok hR hE hR1 40 k B hf h hr
theorem vcall_ok (hC : FunOk P call) {fr : Bool} {f : FuncId} {args : List AV} {H H' : List Blk} {r : AV} (hfr : fr = false → args.all (pv depth) = true) (h : vcall fr call f args H = some (r, H')) : H' = H ∧ Enter P f ∧ PureOk P f args H r := by
  unfold vcall at h
  split at h <;> try (cases h; done)
  rename_i as has
  split at h <;> try (cases h; done)
  rename_i r0 H1 hcall
  split at h <;> try (cases h; done)
  rename_i hcond
  obtain ⟨y, hy, e⟩ := Option.map_eq_some_iff.1 h
  cases e
  refine ⟨rfl, (hC _ _ _ _ _ hcall).1, fun w F B vs Hb hR hRw hv => ?_⟩
  cases fr with
  | false =>
    have hpv := hfr rfl
    have hF : ∀ i, Forb F B i → i < w.heap.size := fun i hi => hi.elim (hR.lt i) (own_lt hR)
    have hv0 := (amap_sound (w := w) (Fb := Forb F B) (Fb' := Forb F B) (B := BM.none) (B' := BM.none) (fun x y v hx hv => rb_none hx hv) has (pvl_sound depth args vs hpv hv)).1
    have hv1 : VRL w (Forb (Forb F B) BM.none) BM.none as vs := VRL.mono (fun a y hf hc => ⟨hc, fun h => h.elim hf none_own⟩) _ _ _ (BLe.refl _) _ hv0
    refine ((hC f as [] r0 H1 hcall).2 w (Forb F B) BM.none vs (HR.empty hF) (fun b hb => by cases hb) hv1).mono ?_
    rintro e w' ⟨v, B1, rfl, hE, hR1, _, hr⟩
    obtain ⟨hE', hR'⟩ := ext_of_empty hR hE
    have h3 := rb_sound hR1.weak hR1.nf depth r0 _ v hy hr
    exact ⟨v, rfl, hE', hR', VR.mono (fun a y hf hc => ⟨hc, hf⟩) _ _ _ (BLe.none B) _ h3⟩
  | true =>
    have hv1 : VRL w (Forb F BM.none) BM.none as vs := VRL.mono (fun a y hf hc => ⟨hc, fun h => h.elim hf none_own⟩) _ _ _ (BLe.refl _) _ (amap_sound (fun x y v hx hv => rb_sound hRw hR.nf depth x y v hx hv) has hv).1
    refine ((hC f as [] _ H1 hcall).2 w F BM.none vs (HR.empty hR.lt) (fun b hb => by cases hb) hv1).mono ?_
    rintro e w' ⟨v, B1, rfl, hE, hR1, _, hr⟩
    obtain ⟨hE', hR'⟩ := ext_of_empty hR hE
    exact ⟨v, rfl, hE', hR', fresh_ok hR hE hR1 (by simpa using hcond) hy hr⟩
theorem acall_cases (hC : FunOk P call) {strict : Bool} {f : FuncId} {args : List AV} {H H' : List Blk} {r : AV} (h : acall mode strict call f args H = some (r, H')) :
    (call f args H = some (r, H') ∧ (strict = true → mode f = 0)) ∨ (H' = H ∧ Enter P f ∧ PureOk P f args H r) := by
  unfold acall at h
  split at h
  · rename_i hm
    exact .inl ⟨h, fun _ => hm⟩
  · split at h
    · rename_i hpv
      exact .inr (vcall_ok hC (fun _ => hpv) h)
    · cases h
  · exact .inr (vcall_ok hC (fun e => by cases e) h)
theorem acall_pure (hC : FunOk P call) {f : FuncId} {args : List AV} {H H' : List Blk} {r : AV} (hp : pureOf mode f = true) (h : acall mode true call f args H = some (r, H')) : H' = H ∧ Enter P f ∧ PureOk P f args H r := by
  rcases acall_cases hC h with ⟨_, h1⟩ | h1
  · unfold pureOf at hp
    rw [h1 rfl] at hp
    simp at hp
  · exact h1
theorem acall_ok (hC : FunOk P call) (strict : Bool) : FunOk P (acall mode strict call) := by
  intro f args H r H' h
  rcases acall_cases hC h with ⟨h1, _⟩ | ⟨rfl, h0, h1⟩
  · exact hC f args H r H' h1
  · refine ⟨h0, fun w F B vs hR hF hv => ?_⟩
    refine (h1 w F B vs H' hR hR.weak hv).mono ?_
    rintro e w' ⟨v, rfl, hE, hR', hr⟩
    exact ⟨v, B, rfl, hE, hR', hF, hr⟩
end
end Go.Proofs.YtpgipdajinkdgaaGreatA
