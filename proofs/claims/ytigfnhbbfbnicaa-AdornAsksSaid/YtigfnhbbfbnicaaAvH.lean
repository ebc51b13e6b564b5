/- A part of the proof of AdornAsks: functions of the program, run by the evaluator. -/

/- The abstract evaluator is right: operations that make a block. -/
import Derived.Test.YtigfnhbbfbnicaaAvG
namespace Go.Proofs.YtigfnhbbfbnicaaA
open Go Go.RowKit
set_option linter.all false
set_option linter.unusedSectionVars false
set_option linter.constructorNameAsVariable false
set_option linter.unusedVariables false
set_option linter.unusedSimpArgs false
section
variable {P : Program} {w : World} {F : Nat → Prop} {B : BM} {H : List Blk} {a : Act} {ρ : Operand → AV}
def NewOk (P : Program) (w : World) (F : Nat → Prop) (B : BM) (n : Nat) (a : Act) (o : Oper) (x : AV) (blk : Blk) : Prop :=
  ∃ v w' cur ys rest c, (execOp a.eval o).run P w = .ok (.value v) w' ∧ w'.os = w.os ∧ w'.tape = w.tape ∧ w'.output = w.output ∧ w.heap.size < w'.heap.size ∧ (∀ i, i < w.heap.size → w'.heap[i]? = w.heap[i]?) ∧ w'.heap[w.heap.size]? = some (.cells cur blk.elem (0, 0)) ∧
    cur.toList = ys ++ rest ∧ VRL w (Forb F B) B blk.cells ys ∧ (∀ y ∈ ys, y.oneCell' = true) ∧ (blk.grow = true → ∃ m, c = some m ∧ cur.size = m * blk.sz ∧ m ≤ maxLen) ∧ (blk.grow = false → c = none ∧ rest = []) ∧
    blk.kind = .cells ∧ blk.ver = 0 ∧ (∀ w2 Fb B', B' n = some (w.heap.size, 0, c) → VR w2 Fb B' x v)
def NewOk' (P : Program) (w : World) (F : Nat → Prop) (B : BM) (n : Nat) (a : Act) (o : Oper) (x : AV) (blk : Blk) : Prop :=
  ∃ v w' c, (execOp a.eval o).run P w = .ok (.value v) w' ∧ w'.os = w.os ∧ w'.tape = w.tape ∧ w'.output = w.output ∧ w.heap.size < w'.heap.size ∧ (∀ i, i < w.heap.size → w'.heap[i]? = w.heap[i]?) ∧
    (∀ B', Ext w B w' B' → BRel w' (Forb F B') B' blk w.heap.size c) ∧ blk.ver = 0 ∧ (∀ w2 Fb B', B' n = some (w.heap.size, 0, c) → VR w2 Fb B' x v)
theorem NewOk.any {P : Program} {w : World} {F : Nat → Prop} {B : BM} {n : Nat} {a : Act} {o : Oper} {x : AV} {blk : Blk} (h : NewOk P w F B n a o x blk) : NewOk' P w F B n a o x blk := by
  obtain ⟨v, w', cur, ys, rest, c, hrun, e1, e2, e3, hsz, hold, hnew, hl, hy, h1, hg1, hg2, hk, hver, hx⟩ := h
  exact ⟨v, w', c, hrun, e1, e2, e3, hsz, hold, fun B' hE => by
    simp only [BRel, hk]
    exact ⟨cur, ys, rest, hnew, hl, hy.ext hE, h1, hg1, hg2⟩, hver, hx⟩
theorem all_one {l : List Value} (h : l.all Value.oneCell' = true) : ∀ y ∈ l, y.oneCell' = true := by simpa using h
theorem op_alloc {o : Oper} {e : TypeId} (ho : o.op = .alloc e) {r : Res} (h : aop P H ρ o = some r) :
    ∃ x blk, r = .new x blk ∧ NewOk P w F B H.length a o x blk := by
  simp only [aop, ho] at h
  split at h <;> try (cases h; done)
  rename_i i hi
  split at h <;> try (cases h; done)
  rename_i zv hz
  split at h <;> try (cases h; done)
  rename_i h1
  cases h
  refine ⟨_, _, rfl, .pointer (some ⟨w.heap.size, 0, none⟩), w.alloc (.cells zv.cells e), zv.cells, zv.cells.toList, [], none, ?_, rfl, rfl, rfl, by simp, fun i hi => heap_alloc_old _ _ _ hi, heap_alloc_new _ _, by simp, VRL.sc _, all_one h1, (fun h => by cases h), fun _ => ⟨rfl, rfl⟩, rfl, rfl, fun w2 Fb B' hB => ?_⟩
  · simp only [execOp, ho, Instr.alloc, Sem.run_bind, run_zero hi hz, Result.andThen_ok, newVar, newRow, run_newObj, Sem.run_pure]
    rfl
  · simp only [VR]
    exact ⟨_, _, 0, none, rfl, hB, Nat.le_refl _, fun _ => rfl⟩
theorem op_box (hρ : ∀ x, VR w (Forb F B) B (ρ x) (a.eval x)) {o : Oper} {e : TypeId} {y : Operand} (ho : o.op = .box e y) {r : Res} (h : aop P H ρ o = some r) :
    ∃ x blk, r = .new x blk ∧ NewOk P w F B H.length a o x blk := by
  simp only [aop, ho] at h
  split at h <;> try (cases h; done)
  rename_i h1
  simp only [Bool.and_eq_true] at h1
  cases h
  have hc := acells_solid (hρ y) h1.1
  refine ⟨_, _, rfl, .pointer (some ⟨w.heap.size, 0, none⟩), w.alloc (.cells (a.eval y).cells e), (a.eval y).cells, (a.eval y).cells.toList, [], none, ?_, rfl, rfl, rfl, by simp, fun i hi => heap_alloc_old _ _ _ hi, heap_alloc_new _ _, by simp, hc, one_cell hc h1.2, (fun h => by cases h), fun _ => ⟨rfl, rfl⟩, rfl, rfl, fun w2 Fb B' hB => ?_⟩
  · simp only [execOp, ho, Instr.box, Sem.run_bind, Result.andThen_ok, newVar, newRow, run_newObj, Sem.run_pure]
    rfl
  · simp only [VR]
    exact ⟨_, _, 0, none, rfl, hB, Nat.le_refl _, fun _ => rfl⟩
theorem zeros_list (z : Array Value) (hz : 0 < z.size) : ∀ n : Nat, ((Array.range (n * z.size)).map (z[· % z.size]!)).toList = (List.replicate n z.toList).flatten
  | 0 => by simp
  | n + 1 => by
    have ih := zeros_list z hz n
    rw [List.replicate_succ', List.flatten_append, ← ih]
    simp only [Array.toList_map, Array.toList_range, List.flatten_cons, List.flatten_nil, List.append_nil]
    rw [Nat.add_mul, Nat.one_mul, List.range_add, List.map_append, List.map_map]
    congr 1
    apply List.ext_getElem
    · simp
    · intro i h1 h2
      have hi : i < z.size := by simpa using h1
      simp only [List.getElem_map, List.getElem_range, Function.comp_apply, Array.getElem_toList]
      rw [Nat.mul_add_mod_self_right, Nat.mod_eq_of_lt hi, getElem!_pos z i hi]
theorem zeros_av (z : Array Value) (n : Nat) : (List.replicate n (z.toList.map AV.sc)).flatten = ((List.replicate n z.toList).flatten).map AV.sc := by
  rw [List.map_flatten, List.map_replicate]
theorem zeros_one {z : Array Value} (h : z.toList.all Value.oneCell' = true) (n : Nat) : ∀ y ∈ (List.replicate n z.toList).flatten, y.oneCell' = true := by
  intro y hy
  obtain ⟨l, hl, hy⟩ := List.mem_flatten.1 hy
  rw [(List.mem_replicate.1 hl).2] at hy
  exact all_one h y hy
theorem op_buildSlice (hρ : ∀ x, VR w (Forb F B) B (ρ x) (a.eval x)) {o : Oper} {t : TypeId} {len : Nat} {parts : Array (Nat × Operand)} (ho : o.op = .buildSlice t len parts) {r : Res} (h : aop P H ρ o = some r) :
    ∃ x blk, r = .new x blk ∧ NewOk P w F B H.length a o x blk := by
  simp only [aop, ho] at h
  split at h <;> try (cases h; done)
  rename_i e hu
  split at h <;> try (cases h; done)
  rename_i i hi
  split at h <;> try (cases h; done)
  rename_i zv hz
  split at h <;> try (cases h; done)
  rename_i hc
  simp only [Bool.and_eq_true, decide_eq_true_eq, beq_iff_eq] at hc
  obtain ⟨⟨⟨hpos, hzs⟩, hone⟩, hbig⟩ := hc
  split at h <;> try (cases h; done)
  rename_i cs hcs
  split at h <;> try (cases h; done)
  rename_i h1
  cases h
  have hsz : szOf P e = some i.size := by unfold szOf; rw [hi]; rfl
  have hz0 : ((Array.range (len * i.size)).map (zv.cells[· % zv.cells.size]!)).toList = (List.replicate len zv.cells.toList).flatten := by
    have := zeros_list zv.cells (by omega) len
    rwa [hzs] at this ⊢
  have hv0 : VRL w (Forb F B) B (List.replicate len (zv.cells.toList.map AV.sc)).flatten ((Array.range (len * i.size)).map (zv.cells[· % zv.cells.size]!)).toList := by
    rw [hz0, zeros_av]; exact VRL.sc _
  obtain ⟨c', hc', hv', hl'⟩ := fill_sound (place' := fun j => some (j * i.size, i.size)) (fun _ _ hq => hq) (VRP.map hρ parts.toList) hv0 hcs
  have hlen := hv'.length
  have hsize : c'.size = len * i.size := by
    have e1 : c'.toList.length = c'.size := Array.length_toList
    rw [← e1, hlen, hl']
    simp [hzs]
  have he : (parts.map fun (x : Nat × Operand) => (x.1, a.eval x.2)).toList = parts.toList.map fun (x : Nat × Operand) => (x.1, a.eval x.2) := by simp
  refine ⟨_, _, rfl, .slice (some ⟨w.heap.size, 0, none⟩) len len, w.alloc (.cells c' e), c', c'.toList, [], some len, ?_, rfl, rfl, rfl, by simp, fun i hi => heap_alloc_old _ _ _ hi, heap_alloc_new _ _, by simp, hv', one_cell hv' h1, fun _ => ⟨len, rfl, hsize, ?_⟩, (fun h => by cases h), rfl, rfl, fun w2 Fb B' hB => ?_⟩
  · simp only [execOp, ho, Instr.buildSlice, Sem.run_bind, run_under hu, Result.andThen_ok, run_szOf hsz]
    rw [Sem.run_ite, if_neg (by omega)]
    by_cases h0 : len * i.size = 0
    · have hc2 : Instr.fill (fun i_1 => some (i_1 * i.size, i.size)) ((Array.range (len * i.size)).map ((#[] : Array Value)[· % (#[] : Array Value).size]!)) (parts.map fun (x : Nat × Operand) => (x.1, a.eval x.2)).toList = some c' := by
        have e0 : ∀ f : Nat → Value, (Array.range 0).map f = #[] := fun f => by simp
        rw [he, ← hc', h0, e0, e0]
      rw [Sem.run_ite, if_pos h0]
      simp only [Sem.run_bind, Sem.run_pure, Result.andThen_ok]
      rw [hc2]
      simp only [Sem.run_bind, newRow, run_newObj, Result.andThen_ok, Sem.run_pure]
      rfl
    · rw [Sem.run_ite, if_neg h0]
      simp only [Sem.run_bind, run_zero hi hz, Sem.run_pure, Result.andThen_ok]
      rw [he, hc']
      simp only [Sem.run_bind, newRow, run_newObj, Result.andThen_ok, Sem.run_pure]
      rfl
  · have : len ≤ len * i.size := Nat.le_mul_of_pos_right _ hpos
    unfold maxLen
    omega
  · by_cases h0 : len = 0
    · rw [if_pos h0]
      subst h0
      simp only [VR]
      exact ⟨_, rfl⟩
    · rw [if_neg h0]
      simp only [VR]
      exact ⟨_, len, _, 0, some len, rfl, hB, Nat.le_refl _, fun _ => ⟨by simp, Nat.le_refl _, fun n hn => by cases hn; rfl⟩⟩
theorem op_makeSlice (hρ : ∀ x, VR w (Forb F B) B (ρ x) (a.eval x)) {o : Oper} {t : TypeId} {l c : Operand} (ho : o.op = .makeSlice t l c) {r : Res} (h : aop P H ρ o = some r) :
    ∃ x blk, r = .new x blk ∧ NewOk P w F B H.length a o x blk := by
  simp only [aop, ho] at h
  split at h <;> try (cases h; done)
  rename_i e hu
  split at h <;> try (cases h; done)
  rename_i i hi
  split at h <;> try (cases h; done)
  rename_i zv nl nc hz hl hcp
  split at h <;> try (cases h; done)
  rename_i hc
  simp only [Bool.and_eq_true, decide_eq_true_eq, beq_iff_eq] at hc
  obtain ⟨⟨⟨⟨⟨⟨hpos, hzs⟩, hone⟩, hl0⟩, hlc⟩, hby⟩, hmx⟩ := hc
  cases h
  obtain ⟨k1, e1⟩ := aint_at (hρ l) hl
  obtain ⟨k2, e2⟩ := aint_at (hρ c) hcp
  have hsz : szOf P e = some i.size := by unfold szOf; rw [hi]; rfl
  obtain ⟨m, rfl⟩ : ∃ m : Nat, nc = m := ⟨nc.toNat, by omega⟩
  obtain ⟨n, rfl⟩ : ∃ n : Nat, nl = n := ⟨nl.toNat, by omega⟩
  simp only [Int.toNat_natCast] at hby hmx ⊢
  have hmx' : m ≤ 9223372036854775807 := by unfold maxLen at hmx; omega
  have hwm : IntKind.i64.wrap (m : Int) = m := by simp only [IntKind.wrap_i64]; omega
  have hwn : IntKind.i64.wrap (n : Int) = n := by simp only [IntKind.wrap_i64]; omega
  have hz0 := zeros_list zv.cells (by omega) m
  rw [hzs] at hz0
  have hsplit : (List.replicate m zv.cells.toList).flatten = (List.replicate n zv.cells.toList).flatten ++ (List.replicate (m - n) zv.cells.toList).flatten := by
    rw [← List.flatten_append, List.replicate_append_replicate]
    congr 2
    omega
  refine ⟨_, _, rfl, .slice (some ⟨w.heap.size, 0, none⟩) n m, w.alloc (.cells ((Array.range (m * i.size)).map (zv.cells[· % i.size]!)) e), (Array.range (m * i.size)).map (zv.cells[· % i.size]!), (List.replicate n zv.cells.toList).flatten, (List.replicate (m - n) zv.cells.toList).flatten, some m, ?_, rfl, rfl, rfl, by simp, fun i hi => heap_alloc_old _ _ _ hi, heap_alloc_new _ _, by rw [hz0, hsplit], by rw [zeros_av]; exact VRL.sc _, zeros_one hone n, fun _ => ⟨m, rfl, by simp, hmx⟩, (fun h => by cases h), rfl, rfl, fun w2 Fb B' hB => ?_⟩
  · simp only [execOp, ho, Instr.makeSlice, asInt, Sem.run_bind, run_under hu, Result.andThen_ok, e1, e2, run_asInt, run_typeInfo hi, Sem.run_pure, hwm, hwn]
    have hb : (i.bytes : Int) * (m : Int) ≤ 140737488355328 := by
      have : ((m * i.bytes : Nat) : Int) ≤ 140737488355328 := by omega
      rw [Int.natCast_mul, Int.mul_comm] at this
      exact this
    rw [Sem.run_ite, if_neg (by simp only [Bool.or_eq_true, decide_eq_true_eq]; omega)]
    simp only [Sem.run_bind, run_askRoom, Result.andThen_ok, Int.toNat_natCast, run_szOf hsz]
    by_cases h0 : m * i.size = 0
    · rw [Sem.run_ite, if_pos h0]
      simp only [Sem.run_bind, Sem.run_pure, Result.andThen_ok, newRow, run_newObj]
      have e0 : ∀ f : Nat → Value, (Array.range 0).map f = #[] := fun f => by simp
      rw [h0, e0, e0]
      rfl
    · rw [Sem.run_ite, if_neg h0]
      simp only [Sem.run_bind, run_zero hi hz, Sem.run_pure, Result.andThen_ok, newRow, run_newObj, hzs]
      rfl
  · simp only [VR]
    exact ⟨_, m, _, 0, some m, rfl, hB, Nat.le_refl _, fun _ => ⟨by simp, by omega, fun n hn => by cases hn; rfl⟩⟩
end
end Go.Proofs.YtigfnhbbfbnicaaA
