/- A part of the proof of AdornAsks: functions of the program, run by the evaluator. -/

/- The abstract evaluator is right: operations that yield a value and change nothing (addresses, slices, tests). -/
import Derived.Test.YtigfnhbbfbnicaaAvD
namespace Go.Proofs.YtigfnhbbfbnicaaA
open Go Go.RowKit
set_option linter.all false
set_option linter.unusedSectionVars false
set_option linter.constructorNameAsVariable false
set_option linter.unusedVariables false
set_option linter.unusedSimpArgs false
section
variable {P : Program} {w : World} {F : Nat → Prop} {B : BM} {H : List Blk} {a : Act} {ρ : Operand → AV}
theorem ValOk.of_sop (hρ : ∀ x, VR w (Forb F B) B (ρ x) (a.eval x)) {o : Oper} {r : Res} (h : (sop P ρ o).map Res.val = some r) : ∃ x, r = .val x ∧ ValOk P w F B a o x := by
  obtain ⟨x, hx, rfl⟩ := Option.map_eq_some_iff.1 h
  exact ⟨x, rfl, sop_sound hρ hx⟩
theorem val_map {α : Type} {o : Oper} {x : Option AV} {r : Res} (h : x.map Res.val = some r) : ∃ y, x = some y ∧ r = .val y := by
  obtain ⟨y, hy, rfl⟩ := Option.map_eq_some_iff.1 h
  exact ⟨y, hy, rfl⟩
theorem op_load (hH : HRw w F B H) (hρ : ∀ x, VR w (Forb F B) B (ρ x) (a.eval x)) {o : Oper} {t : TypeId} {y : Operand} (ho : o.op = .load t y) {r : Res} (h : aop P H ρ o = some r) :
    ∃ x, r = .val x ∧ ValOk P w F B a o x := by
  simp only [aop, ho] at h
  have hy := hρ y
  split at h
  · rename_i b off ver e
    rw [e] at hy
    split at h <;> try (cases h; done)
    rename_i blk hb
    obtain ⟨x, hx, rfl⟩ := val_map (α := Unit) (o := o) h
    obtain ⟨g, c, hv, _, hbr⟩ := ptr_at hH hy hb
    obtain ⟨ys, hys, _, hc⟩ := brel_cells hbr
    obtain ⟨v, hrun, hvr⟩ := rd_load (P := P) hys hc hx
    rw [addr_add, Nat.zero_add] at hrun
    refine ⟨x, rfl, v, ?_, hvr⟩
    simp only [execOp, ho, hv, Instr.loadAt, Instr.sureAddr, Sem.run_bind, Sem.run_pure, Result.andThen_ok, hrun]
  · rename_i cs e
    rw [e] at hy
    obtain ⟨x, hx, rfl⟩ := val_map (α := Unit) (o := o) h
    simp only [VR] at hy
    obtain ⟨a0, ys, hv, hys, hM⟩ := hy
    rcases hM.2 with h0 | ⟨a1, e1, hf, hc⟩
    · subst h0
      -- nothing is there: only what has no cells is read, and that is no variable
      have hcs : cs = [] := by have := hys.length; exact List.eq_nil_of_length_eq_zero (by simpa using this.symm)
      subst hcs
      obtain ⟨v, hrun, hvr⟩ := rd_load (P := P) (a0 := a0) hys (fun j y hj => by simp at hj) hx
      have e0 : a0.add 0 = a0 := by unfold Addr.add; simp
      rw [e0] at hrun
      refine ⟨x, rfl, v, ?_, VR.mono (fun a y hf hc => ⟨hc, hf⟩) x _ _ (BLe.none B) _ hvr⟩
      simp only [execOp, ho, hv, Instr.loadAt, Instr.sureAddr, Sem.run_bind, Sem.run_pure, Result.andThen_ok, hrun]
    · cases e1
      obtain ⟨v, hrun, hvr⟩ := rd_load (P := P) hys hc hx
      have e0 : a0.add 0 = a0 := by unfold Addr.add; simp
      rw [e0] at hrun
      refine ⟨x, rfl, v, ?_, VR.mono (fun a y hf hc => ⟨hc, hf⟩) x _ _ (BLe.none B) _ hvr⟩
      simp only [execOp, ho, hv, Instr.loadAt, Instr.sureAddr, Sem.run_bind, Sem.run_pure, Result.andThen_ok, hrun]
  · cases h
theorem op_move (hρ : ∀ x, VR w (Forb F B) B (ρ x) (a.eval x)) {o : Oper} {y : Operand} (ho : o.op = .move y ∨ o.op = .assign y) {r : Res} (h : aop P H ρ o = some r) :
    ∃ x, r = .val x ∧ ValOk P w F B a o x := by
  rcases ho with ho | ho <;> simp only [aop, ho, Option.some.injEq] at h <;> subst h <;> exact ⟨_, rfl, _, by simp only [execOp, ho, Sem.run_pure], hρ y⟩
theorem op_pick (hρ : ∀ x, VR w (Forb F B) B (ρ x) (a.eval x)) {o : Oper} {c x y : Operand} (ho : o.op = .pick c x y) {r : Res} (h : aop P H ρ o = some r) :
    ∃ x, r = .val x ∧ ValOk P w F B a o x := by
  simp only [aop, ho] at h
  have hc := hρ c
  split at h
  · rename_i t e
    rw [e] at hc
    simp only [VR] at hc
    cases h
    refine ⟨_, rfl, if t then a.eval x else a.eval y, ?_, by split; exact hρ x; exact hρ y⟩
    simp only [execOp, ho, hc, asBool, Sem.run_bind, Sem.run_pure, Result.andThen_ok]
  · cases h
theorem op_nilCheck (hρ : ∀ x, VR w (Forb F B) B (ρ x) (a.eval x)) {o : Oper} {y : Operand} (ho : o.op = .nilCheck y) {r : Res} (h : aop P H ρ o = some r) :
    ∃ x, r = .val x ∧ ValOk P w F B a o x := by
  have ho' := ho
  simp only [aop, ho] at h
  have hy := hρ y
  split at h
  · rename_i b off ver e
    rw [e] at hy
    cases h
    have hy' := hy
    simp only [VR] at hy'
    obtain ⟨a0, _, _, _, hv, _⟩ := hy'
    refine ⟨_, rfl, a.eval y, ?_, hy⟩
    simp only [execOp, ho, hv, Sem.run_bind, Sem.run_pure, Result.andThen_ok]
  · rename_i cs e
    rw [e] at hy
    cases h
    have hy' := hy
    simp only [VR] at hy'
    obtain ⟨a0, _, hv, _⟩ := hy'
    refine ⟨_, rfl, a.eval y, ?_, hy⟩
    simp only [execOp, ho, hv, Sem.run_bind, Sem.run_pure, Result.andThen_ok]
  · rename_i f caps e
    rw [e] at hy
    cases h
    have hy' := hy
    simp only [VR] at hy'
    obtain ⟨c, hv, _⟩ := hy'
    refine ⟨_, rfl, a.eval y, ?_, hy⟩
    simp only [execOp, ho, hv, Sem.run_bind, Sem.run_pure, Result.andThen_ok]
  · exact ValOk.of_sop hρ h
theorem VRL.map {Fb : Nat → Prop} (hρ : ∀ x, VR w Fb B (ρ x) (a.eval x)) : ∀ xs : List Operand, VRL w Fb B (xs.map ρ) (xs.map a.eval)
  | [] => by simp [VRL]
  | x :: xs => by simp only [List.map_cons, VRL]; exact ⟨_, _, rfl, hρ x, VRL.map hρ xs⟩
theorem op_makeFunc (hρ : ∀ x, VR w (Forb F B) B (ρ x) (a.eval x)) {o : Oper} {fn : Fn} {first caps : Array Operand} (ho : o.op = .makeFunc fn first caps) {r : Res} (h : aop P H ρ o = some r) :
    ∃ x, r = .val x ∧ ValOk P w F B a o x := by
  cases fn <;> simp only [aop, ho] at h
  case func f =>
    split at h
    · rename_i h0
      cases h
      have hf : first = #[] := Array.eq_empty_of_size_eq_zero h0
      subst hf
      refine ⟨_, rfl, .func (.func f) #[] (caps.map a.eval), ?_, ?_⟩
      · simp only [execOp, ho, Instr.makeFunc, Sem.run_bind, Sem.run_pure, Result.andThen_ok, List.map_toArray, List.map_nil]
      · simp only [VR]
        exact ⟨_, rfl, by rw [Array.toList_map]; exact VRL.map hρ _⟩
    · cases h
  all_goals exact ValOk.of_sop hρ h
theorem op_makeInterface (hρ : ∀ x, VR w (Forb F B) B (ρ x) (a.eval x)) {o : Oper} {t : TypeId} {y : Operand} (ho : o.op = .makeInterface t y) {r : Res} (h : aop P H ρ o = some r) :
    ∃ x, r = .val x ∧ ValOk P w F B a o x := by
  simp only [aop, ho] at h
  split at h <;> try (cases h; done)
  rename_i d hn hd
  cases h
  refine ⟨_, rfl, .iface t (a.eval y), ?_, by simp only [VR]; exact ⟨_, rfl, hρ y⟩⟩
  simp only [execOp, ho, Instr.makeInterface, Sem.run_bind, run_under hd, Result.andThen_ok]
  cases d <;> first | rfl | exact absurd rfl (hn _)
theorem op_field (hρ : ∀ x, VR w (Forb F B) B (ρ x) (a.eval x)) {o : Oper} {t : TypeId} {y : Operand} {f : Nat} (ho : o.op = .field t y f) {r : Res} (h : aop P H ρ o = some r) :
    ∃ x, r = .val x ∧ ValOk P w F B a o x := by
  simp only [aop, ho] at h
  have hy := hρ y
  split at h <;> try (cases h; done)
  rename_i fields hu
  split at h <;> try (cases h; done)
  rename_i fd cs hfd e
  rw [e] at hy
  simp only [VR] at hy
  obtain ⟨c, hv, hcs⟩ := hy
  obtain ⟨x, hx, rfl⟩ := val_map (α := Unit) (o := o) h
  obtain ⟨v, hrun, hvr⟩ := rd_part (P := P) hcs hx
  refine ⟨x, rfl, v, ?_, hvr⟩
  simp only [execOp, ho, Instr.field, Sem.run_bind, run_under hu, Result.andThen_ok, hfd, hv, asAgg, Sem.run_pure, hrun]
theorem op_extract (hρ : ∀ x, VR w (Forb F B) B (ρ x) (a.eval x)) {o : Oper} {y : Operand} {i : Nat} (ho : o.op = .extract y i) {r : Res} (h : aop P H ρ o = some r) :
    ∃ x, r = .val x ∧ ValOk P w F B a o x := by
  simp only [aop, ho] at h
  have hy := hρ y
  split at h <;> try (cases h; done)
  rename_i vs e
  rw [e] at hy
  simp only [VR] at hy
  obtain ⟨c, hv, hcs⟩ := hy
  obtain ⟨x, hx, rfl⟩ := val_map (α := Unit) (o := o) h
  obtain ⟨u, hu, hvr⟩ := VRL.get hcs hx
  refine ⟨x, rfl, u, ?_, hvr⟩
  have hc : c[i]? = some u := by rw [← Array.getElem?_toList]; exact hu
  simp only [execOp, ho, Instr.extract, hv, hc, Sem.run_bind, Sem.run_pure, Result.andThen_ok]
theorem aint_at {Fb : Nat → Prop} {x : AV} {v : Value} {n : Int} (h : VR w Fb B x v) (hn : aint x = some n) : ∃ k, v = .int k n := by
  cases x <;> simp only [aint] at hn <;> try (cases hn; done)
  rename_i u
  simp only [VR] at h
  subst h
  split at hn
  · rename_i k m e
    cases hn
    injection e with e
    exact ⟨k, e⟩
  · cases hn
theorem run_asInt {k : IntKind} {n : Int} : (asIntOf (.int k n)).run P w = .ok (k, n) w := rfl
theorem op_fieldAddr (hH : HRw w F B H) (hρ : ∀ x, VR w (Forb F B) B (ρ x) (a.eval x)) {o : Oper} {t : TypeId} {y : Operand} {f : Nat} (ho : o.op = .fieldAddr t y f) {r : Res} (h : aop P H ρ o = some r) :
    ∃ x, r = .val x ∧ ValOk P w F B a o x := by
  simp only [aop, ho] at h
  have hy := hρ y
  split at h <;> try (cases h; done)
  rename_i fields hu
  split at h <;> try (cases h; done)
  rename_i fd hfd
  split at h
  · rename_i n b off ver hs e
    rw [e] at hy
    split at h <;> try (cases h; done)
    rename_i blk hb
    cases h
    obtain ⟨g, c, hv, hB, _⟩ := ptr_at hH hy hb
    refine ⟨_, rfl, .pointer (some ⟨g, off + fd.offset, none⟩), ?_, ?_⟩
    · simp only [execOp, ho, Instr.fieldAt, Sem.run_bind, run_under hu, Result.andThen_ok, hfd, hv, Instr.sureAddr, Sem.run_pure, fieldPlace, run_szOf hs, Sem.run_ite, Nat.succ_ne_zero, if_false, addr_add]
    · simp only [VR]
      exact ⟨_, g, ver, c, rfl, hB, Nat.le_refl _, fun _ => rfl⟩
  · rename_i n cs hs e
    rw [e] at hy
    split at h <;> try (cases h; done)
    rename_i hle
    cases h
    simp only [VR] at hy
    obtain ⟨a0, ys, hv, hys, hM⟩ := hy
    refine ⟨_, rfl, .pointer (some (a0.add fd.offset)), ?_, ?_⟩
    · simp only [execOp, ho, Instr.fieldAt, Sem.run_bind, run_under hu, Result.andThen_ok, hfd, hv, Instr.sureAddr, Sem.run_pure, fieldPlace, run_szOf hs, Sem.run_ite, Nat.succ_ne_zero, if_false]
    · simp only [VR]
      refine ⟨_, ys.drop fd.offset, rfl, VRL.drop _ hys, fun y hy => hM.1 y (List.mem_of_mem_drop hy), ?_⟩
      rcases hM.2 with h0 | ⟨a1, e1, hf, hc⟩
      · left; rw [h0]; simp
      · cases e1
        refine .inr ⟨_, rfl, by rw [add_block]; exact hf, fun j y hj => ?_⟩
        rw [add_add]
        rw [List.getElem?_drop] at hj
        exact hc _ _ hj
  · cases h
theorem Mem.sub {Fb : Nat → Prop} {A : Option Addr} {ys : List Value} (h : Mem w Fb A ys) (k n : Nat) {A' : Option Addr} (hA : (ys.drop k).take n ≠ [] → A' = A.map (·.add k)) : Mem w Fb A' ((ys.drop k).take n) := by
  refine ⟨fun y hy => h.1 y (List.mem_of_mem_drop (List.mem_of_mem_take hy)), ?_⟩
  by_cases h0 : (ys.drop k).take n = []
  · exact .inl h0
  · rcases h.2 with h1 | ⟨a1, e1, hf, hc⟩
    · exact absurd (by rw [h1]; simp) h0
    · refine .inr ⟨a1.add k, by rw [hA h0, e1]; rfl, by rw [add_block]; exact hf, fun j y hj => ?_⟩
      rw [add_add]
      rw [List.getElem?_take] at hj
      split at hj
      · rw [List.getElem?_drop] at hj; exact hc _ _ hj
      · cases hj
theorem flat_len {sz : Nat} : ∀ {rows : List (List AV)}, (∀ r ∈ rows, r.length = sz) → rows.flatten.length = rows.length * sz
  | [], _ => by simp
  | r :: rs, h => by
    simp only [List.flatten_cons, List.length_append, List.length_cons]
    rw [h r (by simp), flat_len (fun x hx => h x (by simp [hx])), Nat.add_mul, Nat.one_mul, Nat.add_comm]
theorem flat_drop {sz : Nat} : ∀ {rows : List (List AV)} (k : Nat), (∀ r ∈ rows, r.length = sz) → (rows.drop k).flatten = rows.flatten.drop (k * sz)
  | rows, 0, _ => by simp
  | [], k + 1, _ => by simp
  | r :: rs, k + 1, h => by
    have hr := h r (by simp)
    rw [List.drop_succ_cons, flat_drop k (fun x hx => h x (by simp [hx])), List.flatten_cons, Nat.add_mul, Nat.one_mul, Nat.add_comm, List.drop_append, hr]
    simp [List.drop_eq_nil_of_le, hr]
theorem flat_take {sz : Nat} : ∀ {rows : List (List AV)} (k : Nat), (∀ r ∈ rows, r.length = sz) → (rows.take k).flatten = rows.flatten.take (k * sz)
  | rows, 0, _ => by simp
  | [], k + 1, _ => by simp
  | r :: rs, k + 1, h => by
    have hr := h r (by simp)
    rw [List.take_succ_cons, List.flatten_cons, flat_take k (fun x hx => h x (by simp [hx])), List.flatten_cons, Nat.add_mul, Nat.one_mul, Nat.add_comm, ← hr, List.take_length_add_append]
theorem flat_get {sz i : Nat} {rows : List (List AV)} {r : List AV} (h : ∀ r ∈ rows, r.length = sz) (hr : rows[i]? = some r) : r = (rows.flatten.drop (i * sz)).take sz := by
  rw [← flat_drop i h]
  have hi : i < rows.length := by rcases Nat.lt_or_ge i rows.length with h' | h'; exact h'; rw [List.getElem?_eq_none h'] at hr; cases hr
  rw [List.drop_eq_getElem_cons hi]
  have e : rows[i] = r := by rw [List.getElem?_eq_getElem hi] at hr; exact Option.some.inj hr
  rw [e, List.flatten_cons, List.take_left' (h r (List.mem_of_getElem? hr))]
theorem op_indexAddr (hH : HRw w F B H) (hρ : ∀ x, VR w (Forb F B) B (ρ x) (a.eval x)) {o : Oper} {t : TypeId} {y i : Operand} (ho : o.op = .indexAddr t y i) {r : Res} (h : aop P H ρ o = some r) :
    ∃ x, r = .val x ∧ ValOk P w F B a o x := by
  simp only [aop, ho] at h
  have hy := hρ y
  split at h
  · rename_i e n hu hn
    obtain ⟨k, hk⟩ := aint_at (hρ i) hn
    split at h <;> try (cases h; done)
    rename_i h0
    split at h
    · rename_i sz rows s e1 hs
      rw [e1] at hy
      split at h <;> try (cases h; done)
      rename_i hss
      simp only [Bool.and_eq_true, decide_eq_true_eq] at hss
      obtain ⟨rfl, hpos⟩ := hss
      obtain ⟨r1, hr, rfl⟩ := Option.map_eq_some_iff.1 h
      simp only [VR] at hy
      obtain ⟨A, cap, ys, hv, hcap, hrows, hvr, hM⟩ := hy
      have hlt : n.toNat < rows.length := by rcases Nat.lt_or_ge n.toNat rows.length with h' | h'; exact h'; rw [List.getElem?_eq_none h'] at hr; cases hr
      have hrl := hrows r1 (List.mem_of_getElem? hr)
      have hflat := VRR.flat.1 hvr
      have hA : ∃ a0, A = some a0 := by
        rcases hM.2 with h1 | ⟨a0, e0, _⟩
        · have h2 := hflat.length
          rw [flat_len hrows, h1] at h2
          have := Nat.mul_le_mul (Nat.succ_le_of_lt (Nat.lt_of_le_of_lt (Nat.zero_le _) hlt)) hpos
          simp at h2
          omega
        · exact ⟨a0, e0⟩
      obtain ⟨a0, rfl⟩ := hA
      refine ⟨_, rfl, .pointer (some (a0.add (n.toNat * s))), ?_, ?_⟩
      · simp only [execOp, ho, Instr.indexAt, hk, run_asInt, hv, Sem.run_bind, run_under hu, Result.andThen_ok, Sem.run_pure]
        rw [Sem.run_ite, if_pos ⟨h0, by omega⟩]
        simp only [Sem.run_bind, run_szOf hs, Result.andThen_ok, Sem.run_pure]
      · simp only [VR]
        refine ⟨_, (ys.drop (n.toNat * s)).take s, rfl, ?_, hM.sub _ _ (fun _ => rfl)⟩
        rw [flat_get hrows hr]
        exact VRL.take _ (VRL.drop _ hflat)
    · rename_i b o1 len sz ver s e1 hs
      rw [e1] at hy
      split at h <;> try (cases h; done)
      rename_i blk hb
      split at h <;> try (cases h; done)
      rename_i hc
      simp only [Bool.and_eq_true, decide_eq_true_eq] at hc
      obtain ⟨hss, hlt⟩ := hc
      cases h
      obtain ⟨g, cap, c, hv, hB, hcap, _, _⟩ := own_at hH hy hb
      refine ⟨_, rfl, .pointer (some ⟨g, (o1 + n.toNat) * sz, none⟩), ?_, ?_⟩
      · simp only [execOp, ho, Instr.indexAt, hk, run_asInt, hv, Sem.run_bind, run_under hu, Result.andThen_ok, Sem.run_pure]
        rw [Sem.run_ite, if_pos ⟨h0, by omega⟩]
        simp only [Sem.run_bind, run_szOf hs, Result.andThen_ok, Sem.run_pure, addr_add, hss, Nat.add_mul]
      · simp only [VR]
        exact ⟨_, g, ver, c, rfl, hB, Nat.le_refl _, fun _ => rfl⟩
    · cases h
  · rename_i len e n hu hn
    obtain ⟨k, hk⟩ := aint_at (hρ i) hn
    split at h <;> try (cases h; done)
    rename_i hc
    simp only [Bool.and_eq_true, decide_eq_true_eq] at hc
    split at h
    · rename_i b off ver s e1 hs
      rw [e1] at hy
      split at h <;> try (cases h; done)
      rename_i blk hb
      cases h
      obtain ⟨g, c, hv, hB, _⟩ := ptr_at hH hy hb
      refine ⟨_, rfl, .pointer (some ⟨g, off + n.toNat * s, none⟩), ?_, ?_⟩
      · simp only [execOp, ho, Instr.indexAt, hk, run_asInt, hv, Sem.run_bind, run_under hu, Result.andThen_ok, Sem.run_pure, Instr.sureAddr]
        rw [Sem.run_ite, if_pos ⟨hc.1, hc.2⟩]
        simp only [Sem.run_bind, run_szOf hs, Result.andThen_ok, Sem.run_pure, addr_add]
      · simp only [VR]
        exact ⟨_, g, ver, c, rfl, hB, Nat.le_refl _, fun _ => rfl⟩
    · rename_i cs s e1 hs
      rw [e1] at hy
      split at h <;> try (cases h; done)
      rename_i hle
      cases h
      simp only [VR] at hy
      obtain ⟨a0, ys, hv, hys, hM⟩ := hy
      refine ⟨_, rfl, .pointer (some (a0.add (n.toNat * s))), ?_, ?_⟩
      · simp only [execOp, ho, Instr.indexAt, hk, run_asInt, hv, Sem.run_bind, run_under hu, Result.andThen_ok, Sem.run_pure, Instr.sureAddr]
        rw [Sem.run_ite, if_pos ⟨hc.1, hc.2⟩]
        simp only [Sem.run_bind, run_szOf hs, Result.andThen_ok, Sem.run_pure]
      · simp only [VR]
        have hl := hys.length
        refine ⟨_, ys.drop (n.toNat * s), rfl, VRL.drop _ hys, ?_⟩
        have := hM.sub (n.toNat * s) (ys.length) (A' := some (a0.add (n.toNat * s))) (fun _ => rfl)
        rwa [List.take_of_length_le (by simp)] at this
    · cases h
  · cases h
theorem op_index (hρ : ∀ x, VR w (Forb F B) B (ρ x) (a.eval x)) {o : Oper} {t : TypeId} {y i : Operand} (ho : o.op = .index t y i) {r : Res} (h : aop P H ρ o = some r) :
    ∃ x, r = .val x ∧ ValOk P w F B a o x := by
  simp only [aop, ho] at h
  have hy := hρ y
  split at h
  · rename_i len e n cs hu hn e1
    rw [e1] at hy
    obtain ⟨k, hk⟩ := aint_at (hρ i) hn
    split at h <;> try (cases h; done)
    rename_i hc
    simp only [Bool.and_eq_true, decide_eq_true_eq] at hc
    split at h <;> try (cases h; done)
    rename_i s hs
    obtain ⟨x, hx, rfl⟩ := val_map (α := Unit) (o := o) h
    simp only [VR] at hy
    obtain ⟨c, hv, hcs⟩ := hy
    obtain ⟨v, hrun, hvr⟩ := rd_part (P := P) hcs hx
    refine ⟨x, rfl, v, ?_, hvr⟩
    simp only [execOp, ho, Instr.index, hk, run_asInt, hv, Sem.run_bind, run_under hu, Result.andThen_ok]
    rw [Sem.run_ite, if_pos ⟨hc.1, hc.2⟩]
    simp only [Sem.run_bind, run_szOf hs, Result.andThen_ok, hrun, Sem.run_pure]
  · exact ValOk.of_sop hρ h
end
end Go.Proofs.YtigfnhbbfbnicaaA
