/- A part of the proof of AdornAsks: functions of the program, run by the evaluator. -/

/- The evaluator's equations: the lesser, and the greater, of two numbers; products, remainders. -/
import Derived.Test.YtigfnhbbfbnicaaAvVg
namespace Go.Proofs.YtigfnhbbfbnicaaA
open Go Go.RowKit
set_option linter.all false
set_option linter.unusedSectionVars false
set_option linter.constructorNameAsVariable false
set_option linter.unusedVariables false
set_option linter.unusedSimpArgs false
def aMin (P : Program) (x y : AV) : Option Res := match toV x, toV y with
  | some u, some v => (pOut P (Builtin.min_ #[] 0 #[u, v])).map .val
  | _, _ => none
def aMax (P : Program) (x y : AV) : Option Res := match toV x, toV y with
  | some u, some v => (pOut P (Builtin.max_ #[] 0 #[u, v])).map .val
  | _, _ => none
section
variable {P : Program} {H : List Blk} {ρ : Operand → AV} {d : Option Tmp} {t u ty : TypeId} {pos : String} {af : Array Edge} {g : Option (Nat × Bool)} {x y : Operand}
theorem sop_none2 {o : Oper} {x y : Operand} (ho : o.op.operands = #[x, y]) (h : toV (ρ x) = none ∨ toV (ρ y) = none) : sop P ρ o = none := by
  refine sop_no ?_
  rw [ho]
  rcases h with h | h <;> simp [h]
theorem aop_min : aop P H ρ ⟨d, .call ⟨.builtin .min, #[x, y], #[t, u]⟩, ty, pos, af, g⟩ = aMin P (ρ x) (ρ y) := by
  have hs : (sop P ρ ⟨d, .call ⟨.builtin .min, #[x, y], #[t, u]⟩, ty, pos, af, g⟩).map Res.val = aMin P (ρ x) (ρ y) := by
    unfold aMin
    cases h : toV (ρ x) with
    | none => rw [sop_none2 (x := x) (y := y) rfl (.inl h)]; rfl
    | some a =>
      cases h2 : toV (ρ y) with
      | none => rw [sop_none2 (x := x) (y := y) rfl (.inr h2)]; rfl
      | some b => rw [sop_v (s := Builtin.min_ #[] 0 #[a, b]) (by simp [Op.operands, Call.operands, h, h2]) rfl (by simp [execOp, resolve, invoke, builtin, h, h2, Builtin.min_])]
  rw [← hs]
  rfl
theorem aop_max : aop P H ρ ⟨d, .call ⟨.builtin .max, #[x, y], #[t, u]⟩, ty, pos, af, g⟩ = aMax P (ρ x) (ρ y) := by
  have hs : (sop P ρ ⟨d, .call ⟨.builtin .max, #[x, y], #[t, u]⟩, ty, pos, af, g⟩).map Res.val = aMax P (ρ x) (ρ y) := by
    unfold aMax
    cases h : toV (ρ x) with
    | none => rw [sop_none2 (x := x) (y := y) rfl (.inl h)]; rfl
    | some a =>
      cases h2 : toV (ρ y) with
      | none => rw [sop_none2 (x := x) (y := y) rfl (.inr h2)]; rfl
      | some b => rw [sop_v (s := Builtin.max_ #[] 0 #[a, b]) (by simp [Op.operands, Call.operands, h, h2]) rfl (by simp [execOp, resolve, invoke, builtin, h, h2, Builtin.max_])]
  rw [← hs]
  rfl
theorem aMin_int {k j : IntKind} {m n : Int} : aMin P (.sc (.int k m)) (.sc (.int j n)) = some (.val (.sc (.int k (if n < m then n else m)))) := by
  simp [aMin, toV, pOut, Builtin.min_, Builtin.min2, pureRun_pure, ofV]
theorem aMax_int {k j : IntKind} {m n : Int} : aMax P (.sc (.int k m)) (.sc (.int j n)) = some (.val (.sc (.int k (if m < n then n else m)))) := by
  simp [aMax, toV, pOut, Builtin.max_, Builtin.max2, pureRun_pure, ofV]
theorem aBin_mulI {p q : Operand} {k : IntKind} {m n : Int} : aBin P H .mul t p q (.sc (.int k m)) (.sc (.int k n)) = some (.val (.sc (.int k (k.wrap (m * n))))) := by
  unfold aBin
  rw [nilTest_flat' rfl rfl, ptrTest_flat' rfl]
  simp [toV, pOut, eqGuard, binOp, Op.intArith, pureRun, ofV, pureRun_bind, pureRun_pure, beq_int, bne_int]
theorem ixo_eq {t e b j n sz ver i : Nat} {k : IntKind} (ht : P.underlying t = some (.slice e)) (hs : szOf P e = some sz) : aIndexAddr P H t (.own b j n sz ver) (.sc (.int k (i : Nat))) = (match blkAt H b ver with | some _ => if i < n then some (.val (.ptr b ((j + i) * sz) ver)) else none | none => none) := by
  unfold aIndexAddr
  rw [ht]
  simp only [aint]
  cases h : blkAt H b ver with
  | none => simp [h, hs]
  | some blk => simp [h, hs, Int.toNat_natCast]
def aClear (P : Program) (H : List Blk) (t : TypeId) (u : AV) (alt : Option Res) : Option Res := match P.underlying t with
  | some (.slice e) => match u with
    | .lst _ [] => some (.val (.tup []))
    | .own b o len sz ver => match blkAt H b ver, P.info? e with
      | some blk, some i => match i.zero with
        | some zv => if 0 < i.size && sz == i.size && zv.cells.size == i.size && zv.cells.toList.all Value.oneCell' && (o + len) * sz ≤ blk.cells.length then
            some (if len = 0 then .val (.tup []) else .upd (.tup []) b { blk with cells := splice blk.cells (o * sz) (List.replicate len (zv.cells.toList.map AV.sc)).flatten }) else none
        | none => none
      | _, _ => none
    | _ => alt
  | _ => none
theorem aop_clear : aop P H ρ ⟨d, .call ⟨.builtin .clear, #[x], #[t]⟩, ty, pos, af, g⟩ = aClear P H t (ρ x) ((sop P ρ ⟨d, .call ⟨.builtin .clear, #[x], #[t]⟩, ty, pos, af, g⟩).map .val) := rfl
def zerosOk (P : Program) (t e sz : Nat) (zs : List AV) : Bool := match P.underlying t, P.info? e with
  | some (.slice e'), some i => match i.zero with
    | some zv => Nat.beq e' e && i.size == sz && decide (0 < sz) && zv.cells.size == sz && zv.cells.toList.all Value.oneCell' && decide (zv.cells.toList.length = zs.length)
    | none => false
  | _, _ => false
theorem aClear_own {t e sz : Nat} {b o n ver : Nat} {zs : List AV} {alt : Option Res} (h : zerosOk P t e sz zs = true) (hz : ((P.info? e).bind (·.zero)).map (fun zv => zv.cells.toList.map AV.sc) = some zs) : aClear P H t (.own b o n sz ver) alt = (match blkAt H b ver with
    | some blk => if (o + n) * sz ≤ blk.cells.length then some (if n = 0 then .val (.tup []) else .upd (.tup []) b { blk with cells := splice blk.cells (o * sz) (List.replicate n zs).flatten }) else none
    | none => none) := by
  unfold zerosOk at h
  split at h <;> try (cases h; done)
  rename_i e' i hu hi
  split at h <;> try (cases h; done)
  rename_i zv hzv
  simp only [Bool.and_eq_true, beq_iff_eq, decide_eq_true_eq] at h
  obtain ⟨⟨⟨⟨⟨h1, h2⟩, h3⟩, h4⟩, h5⟩, h6⟩ := h
  cases Nat.eq_of_beq_eq_true h1
  rw [hi] at hz
  simp only [Option.bind_some, hzv, Option.map_some, Option.some.injEq] at hz
  subst h2
  unfold aClear
  rw [hu]
  dsimp only
  cases hb : blkAt H b ver with
  | none => rfl
  | some blk =>
    simp only [hi, hzv, hz]
    have : (decide (0 < i.size) && i.size == i.size && zv.cells.size == i.size && zv.cells.toList.all Value.oneCell' && decide ((o + n) * i.size ≤ blk.cells.length)) = decide ((o + n) * i.size ≤ blk.cells.length) := by
      simp only [h3, h4, h5, beq_self_eq_true, decide_true, Bool.and_self, Bool.true_and]
    rw [this]
    simp only [decide_eq_true_eq]
theorem ixa_eq {t e len i : Nat} {q : IntKind} {cs : List AV} (ht : P.underlying t = some (.array len e)) (hs : szOf P e = some 1) (hi : i < len) (hc : i ≤ cs.length) : aIndexAddr P H t (.ro cs) (.sc (.int q (i : Nat))) = some (.val (.ro (cs.drop i))) := by
  unfold aIndexAddr
  rw [ht]
  simp only [aint, hs, Nat.mul_one, Int.toNat_natCast]
  rw [if_pos (by simp; omega), if_pos hc]
def aMk (P : Program) (H : List Blk) (t : TypeId) (l c : AV) : Option Res := match P.underlying t with
    | some (.slice e) =>
      match P.info? e with
      | some i => match i.zero, aint l, aint c with
        | some zv, some nl, some nc =>
          if 0 < i.size && zv.cells.size == i.size && zv.cells.toList.all Value.oneCell' && 0 ≤ nl && nl ≤ nc && (nc.toNat * i.bytes ≤ 140737488355328) && nc.toNat ≤ maxLen then
            some (.new (.own H.length 0 nl.toNat i.size 0) ⟨e, i.size, 0, true, (List.replicate nl.toNat (zv.cells.toList.map AV.sc)).flatten, .cells⟩)
          else none
        | _, _, _ => none
      | none => none
    | _ => none
theorem aop_makeSlice : aop P H ρ ⟨d, .makeSlice t x y, ty, pos, af, g⟩ = aMk P H t (ρ x) (ρ y) := rfl
theorem aMk_nn {t e sz bytes n : Nat} {q q' : IntKind} {zs : List AV} (h : zerosOk P t e sz zs = true) (hz : ((P.info? e).bind (·.zero)).map (fun zv => zv.cells.toList.map AV.sc) = some zs) (hb : (P.info? e).map (·.bytes) = some bytes) : aMk P H t (.sc (.int q (n : Nat))) (.sc (.int q' (n : Nat))) = if (decide (n * bytes ≤ 140737488355328) && decide (n ≤ maxLen)) = true then some (.new (.own H.length 0 n sz 0) ⟨e, sz, 0, true, (List.replicate n zs).flatten, .cells⟩) else none := by
  unfold zerosOk at h
  split at h <;> try (cases h; done)
  rename_i e' i hu hi
  split at h <;> try (cases h; done)
  rename_i zv hzv
  simp only [Bool.and_eq_true, beq_iff_eq, decide_eq_true_eq] at h
  obtain ⟨⟨⟨⟨⟨h1, h2⟩, h3⟩, h4⟩, h5⟩, h6⟩ := h
  cases Nat.eq_of_beq_eq_true h1
  rw [hi] at hz hb
  simp only [Option.bind_some, hzv, Option.map_some, Option.some.injEq] at hz hb
  subst h2 hb
  unfold aMk
  rw [hu]
  simp only [hi, hzv, aint, Int.toNat_natCast, hz]
  have : (decide (0 < i.size) && zv.cells.size == i.size && zv.cells.toList.all Value.oneCell' && decide (0 ≤ (n : Int)) && decide ((n : Int) ≤ (n : Int)) && decide (n * i.bytes ≤ 140737488355328) && decide (n ≤ maxLen)) = (decide (n * i.bytes ≤ 140737488355328) && decide (n ≤ maxLen)) := by
    simp only [h3, h4, h5, beq_self_eq_true, decide_true, Bool.and_self, Bool.true_and, Int.le_refl, Int.natCast_nonneg]
  rw [this]
theorem wrap_nat {a : Nat} (h : a < 9000000000000000000) : IntKind.i64.wrap (a : Int) = a := by
  simp [IntKind.wrap, IntKind.bits, IntKind.signed]; omega
theorem wrap_i64 {a : Int} (h1 : -9000000000000000000 < a) (h : a < 9000000000000000000) : IntKind.i64.wrap a = a := by
  simp [IntKind.wrap, IntKind.bits, IntKind.signed]; omega
end
def numbered : Nat → List AV → List (Nat × AV)
  | _, [] => []
  | k, u :: us => (k, u) :: numbered (k + 1) us
theorem afill_rows {sz : Nat} : ∀ (us : List AV) (pre z : List AV) (k : Nat), pre.length = k * sz → z.length = us.length * sz → (∀ u ∈ us, solid u = true ∧ (acells u).length = sz) → afill (fun j => some (j * sz, sz)) (pre ++ z) (numbered k us) = some (pre ++ (us.map acells).flatten)
  | [], pre, z, k, h1, h2, h3 => by
    have : z = [] := by simpa using h2
    subst this
    simp [numbered, afill]
  | u :: us, pre, z, k, h1, h2, h3 => by
    obtain ⟨hs, hl⟩ := h3 u (by simp)
    simp only [List.length_cons, Nat.add_mul, Nat.one_mul] at h2
    have hc : (solid u && (acells u).length == sz && decide (k * sz + sz ≤ (pre ++ z).length)) = true := by
      rw [hs, hl, List.length_append, h1, h2]
      simp
    have hsp : splice (pre ++ z) (k * sz) (acells u) = (pre ++ acells u) ++ z.drop sz := by
      unfold splice
      rw [← h1, List.take_left', hl, List.drop_append, List.drop_eq_nil_of_le (by omega), List.nil_append]
      · congr 2
        omega
      · rfl
    simp only [numbered, afill]
    rw [if_pos hc, hsp]
    rw [afill_rows us (pre ++ acells u) (z.drop sz) (k + 1) (by rw [List.length_append, h1, hl, Nat.add_mul, Nat.one_mul]) (by rw [List.length_drop]; omega) (fun v hv => h3 v (by simp [hv]))]
    simp
def aBSL (P : Program) (H : List Blk) (t : TypeId) (len : Nat) (l : List (Nat × AV)) : Option Res :=
    match P.underlying t with
    | some (.slice e) =>
      match P.info? e with
      | some i => match i.zero with
        | some zv =>
          if 0 < i.size && zv.cells.size == i.size && zv.cells.toList.all Value.oneCell' && len * i.size ≤ 16777216 then
            match afill (fun j => some (j * i.size, i.size)) ((List.replicate len (zv.cells.toList.map AV.sc)).flatten) l with
            | some cs => if cs.all one then some (.new (if len = 0 then .z else .own H.length 0 len i.size 0) ⟨e, i.size, 0, true, cs, .cells⟩) else none
            | none => none
          else none
        | none => none
      | none => none
    | _ => none
theorem bsl_eq {P : Program} {H : List Blk} {t e : TypeId} {sz bytes : Nat} (us : List AV) (ht : rowOk P t e sz bytes = true) (hn : us ≠ []) (hb : us.length * sz ≤ 16777216) (h : ∀ u ∈ us, solid u = true ∧ (acells u).length = sz ∧ (acells u).all one = true) :
    aBSL P H t us.length (numbered 0 us) = some (.new (.own H.length 0 us.length sz 0) ⟨e, sz, 0, true, (us.map acells).flatten, .cells⟩) := by
  obtain ⟨i, zv, hu, hi, hz, rfl, rfl, hpos, hzs, hz1, hbig⟩ := rowOk_at ht
  have hcond : (decide (0 < i.size) && zv.cells.size == i.size && zv.cells.toList.all Value.oneCell' && decide (us.length * i.size ≤ 16777216)) = true := by
    simp only [Bool.and_eq_true, decide_eq_true_eq, beq_iff_eq]
    exact ⟨⟨⟨hpos, hzs⟩, hz1⟩, hb⟩
  have hzl : ((List.replicate us.length (zv.cells.toList.map AV.sc)).flatten).length = us.length * i.size := by
    rw [flat_len' (sz := i.size)]
    · simp
    · intro r hr
      obtain ⟨_, rfl⟩ := List.mem_replicate.1 hr
      simpa using hzs
  have hf := afill_rows (sz := i.size) us [] _ 0 (by simp) hzl (fun u hu => ⟨(h u hu).1, (h u hu).2.1⟩)
  simp only [List.nil_append] at hf
  have hone : ((us.map acells).flatten).all one = true := by
    rw [List.all_flatten, List.all_eq_true]
    intro r hr
    obtain ⟨u, hu, rfl⟩ := List.mem_map.1 hr
    exact (h u hu).2.2
  have hl0 : us.length ≠ 0 := fun h => hn (List.length_eq_zero_iff.1 h)
  simp only [aBSL, hu, hi, hz]
  rw [if_pos hcond, hf]
  simp only [hone, if_true, if_neg hl0]
def okU (sz : Nat) (u : AV) : Bool := solid u && decide ((acells u).length = sz) && (acells u).all one
theorem okU_at {sz : Nat} {u : AV} (h : okU sz u = true) : solid u = true ∧ (acells u).length = sz ∧ (acells u).all one = true := by
  unfold okU at h
  simp only [Bool.and_eq_true, decide_eq_true_eq] at h
  exact ⟨h.1.1, h.1.2, h.2⟩
theorem bs2_if {P : Program} {H : List Blk} {ρ : Operand → AV} {d : Option Tmp} {ty t e : TypeId} {sz bytes : Nat} {x y : Operand} {pos : String} {af : Array Edge} {g : Option (Nat × Bool)} (ht : rowOk P t e sz bytes = true) (hb : 2 * sz ≤ 16777216) : aop P H ρ ⟨d, .buildSlice t 2 #[(0, x), (1, y)], ty, pos, af, g⟩ = if (okU sz (ρ x) && okU sz (ρ y)) = true then some (.new (.own H.length 0 2 sz 0) ⟨e, sz, 0, true, acells (ρ x) ++ acells (ρ y), .cells⟩) else aBSL P H t 2 [(0, ρ x), (1, ρ y)] := by
  split
  · rename_i h
    simp only [Bool.and_eq_true] at h
    have := bsl_eq (H := H) [ρ x, ρ y] ht (by simp) (by simpa using hb) (fun u hu => by
      simp only [List.mem_cons, List.not_mem_nil, or_false] at hu
      rcases hu with rfl | rfl
      · exact okU_at h.1
      · exact okU_at h.2)
    simp only [List.length_cons, List.length_nil, List.map_cons, List.map_nil, List.flatten_cons, List.flatten_nil, List.append_nil] at this
    exact this
  · rfl
theorem bs3_if {P : Program} {H : List Blk} {ρ : Operand → AV} {d : Option Tmp} {ty t e : TypeId} {sz bytes : Nat} {x y z : Operand} {pos : String} {af : Array Edge} {g : Option (Nat × Bool)} (ht : rowOk P t e sz bytes = true) (hb : 3 * sz ≤ 16777216) : aop P H ρ ⟨d, .buildSlice t 3 #[(0, x), (1, y), (2, z)], ty, pos, af, g⟩ = if (okU sz (ρ x) && okU sz (ρ y) && okU sz (ρ z)) = true then some (.new (.own H.length 0 3 sz 0) ⟨e, sz, 0, true, acells (ρ x) ++ (acells (ρ y) ++ acells (ρ z)), .cells⟩) else aBSL P H t 3 [(0, ρ x), (1, ρ y), (2, ρ z)] := by
  split
  · rename_i h
    simp only [Bool.and_eq_true] at h
    have := bsl_eq (H := H) [ρ x, ρ y, ρ z] ht (by simp) (by simpa using hb) (fun u hu => by
      simp only [List.mem_cons, List.not_mem_nil, or_false] at hu
      rcases hu with rfl | rfl | rfl
      · exact okU_at h.1.1
      · exact okU_at h.1.2
      · exact okU_at h.2)
    simp only [List.length_cons, List.length_nil, List.map_cons, List.map_nil, List.flatten_cons, List.flatten_nil, List.append_nil] at this
    exact this
  · rfl
theorem aloop_eqR {call callD : Fun} {jump : Code → Code → St → Option (AX × St)} {pure_ : FuncId → Bool} {dyn : Nat → Bool} {keep : Nat → Option (List Nat)} {n k : Nat} {P : Program} {b : Code} {s0 : St} {A : Option (AX × St)} (hA : aloop P call callD jump pure_ dyn keep n k b s0 = A) (L : List Nat) (S : Nat → St) (m : Nat) (hk : m < k) (hL : (firstId b).bind keep = some L) (h0 : pr L s0 = S 0)
    (hs : ∀ j, j < m → aft L (acode P call callD jump pure_ dyn keep n k b (S j)) = some (.normal, S (j + 1))) {R : AX × St} (he : acode P call callD jump pure_ dyn keep n k b (S m) = some R) (hR : ends (some R) = true) : A = some R := by
  subst hA
  rw [aloop_eq L S m hk hL h0 hs (by rw [he]; exact hR), he]
theorem aloop_T {call callD : Fun} {jump : Code → Code → St → Option (AX × St)} {pure_ : FuncId → Bool} {dyn : Nat → Bool} {keep : Nat → Option (List Nat)} {n k : Nat} {P : Program} {b : Code} {s0 : St} {A : Option (AX × St)} (hA : aloop P call callD jump pure_ dyn keep n k b s0 = A) (L : List Nat) (I : Nat → St → Prop) (T : AX × St → Prop) (m : Nat) (hk : m < k) (hL : (firstId b).bind keep = some L) (h0 : I 0 (pr L s0))
    (hs : ∀ j, j < m → ∀ s, I j s → (∃ s1, aft L (acode P call callD jump pure_ dyn keep n k b s) = some (.normal, s1) ∧ I (j + 1) s1) ∨ (∃ R, acode P call callD jump pure_ dyn keep n k b s = some R ∧ ends (some R) = true ∧ T R))
    (he : ∀ s, I m s → ∃ R, acode P call callD jump pure_ dyn keep n k b s = some R ∧ ends (some R) = true ∧ T R) : ∃ R, A = some R ∧ T R := by
  obtain ⟨j, s, hj, hI, ⟨R, h1, h2⟩, e⟩ := aloop_last hA L I (fun j s => ∃ R, acode P call callD jump pure_ dyn keep n k b s = some R ∧ T R) m hk hL h0 (fun j hj s hI => by
    by_cases h : j < m
    · rcases hs j h s hI with ⟨s1, e, h1⟩ | ⟨R, e, hR, hT⟩
      · left; exact ⟨h, s1, e, h1⟩
      · right; exact ⟨⟨R, e, hT⟩, by rw [e]; exact hR⟩
    · obtain rfl : j = m := by omega
      obtain ⟨R, e, hR, hT⟩ := he s hI
      right; exact ⟨⟨R, e, hT⟩, by rw [e]; exact hR⟩)
  exact ⟨R, by rw [e, h1], h2⟩
def HB (H : List Blk) (b e sz ver : Nat) (rows : List (List AV)) : List Blk := H.set b ⟨e, sz, ver, true, rows.flatten, .cells⟩
section
variable {P : Program} {H : List Blk} {b e sz ver : Nat} {rows : List (List AV)}
theorem hb_get (hb : b < H.length) : (HB H b e sz ver rows)[b]? = some ⟨e, sz, ver, true, rows.flatten, .cells⟩ := by
  unfold HB
  rw [List.getElem?_set_self hb]
theorem hb_set {rows2 : List (List AV)} : (HB H b e sz ver rows).set b ⟨e, sz, ver, true, rows2.flatten, .cells⟩ = HB H b e sz ver rows2 := by
  unfold HB
  rw [List.set_set]
theorem flat_len2 (hr : ∀ r ∈ rows, r.length = sz) : rows.flatten.length = rows.length * sz := flat_len' hr
theorem rd_row {i : Nat} {r : List AV} (hr : ∀ r ∈ rows, r.length = sz) (hi : rows[i]? = some r) : rdCells rows.flatten (i * sz) sz = some r := by
  have hlt : i < rows.length := by rcases Nat.lt_or_ge i rows.length with h | h; exact h; rw [List.getElem?_eq_none h] at hi; cases hi
  have hle : i * sz + sz ≤ rows.length * sz := by
    have := Nat.mul_le_mul_right sz (show i + 1 ≤ rows.length from hlt)
    rwa [Nat.add_mul, Nat.one_mul] at this
  unfold rdCells
  rw [if_pos (by rw [flat_len2 hr]; exact hle), flat_at hr hi]
theorem splice_row {i : Nat} {r : List AV} (hr : ∀ r ∈ rows, r.length = sz) (hl : r.length = sz) (hi : i < rows.length) : splice rows.flatten (i * sz) r = (rows.set i r).flatten := by
  unfold splice
  have h1 : rows.flatten.take (i * sz) = (rows.take i).flatten := by
    have e0 : rows.flatten = (rows.take i).flatten ++ (rows.drop i).flatten := by rw [← List.flatten_append, List.take_append_drop]
    rw [e0, List.take_left']
    rw [flat_len' (fun x hx => hr x (List.mem_of_mem_take hx)), List.length_take, Nat.min_eq_left (by omega)]
  have h2 : rows.flatten.drop (i * sz + r.length) = (rows.drop (i + 1)).flatten := by
    rw [hl, flat_drop (i + 1) hr, Nat.add_mul, Nat.one_mul]
  rw [h1, h2, List.set_eq_take_append_cons_drop, if_pos hi]
  simp
end
theorem app_oj {P : Program} {H : List Blk} {t e : TypeId} {sz bytes b ver : Nat} {rows more : List (List AV)} {junk : List AV} (ht : rowOk P t e sz bytes = true) (hk : H[b]? = some ⟨e, sz, ver, true, rows.flatten ++ junk, .cells⟩) (hr : ∀ r ∈ rows, r.length = sz) (hne : more ≠ []) (hm : ∀ r ∈ more, r.all one = true) (hb : (rows.length + more.length) * bytes ≤ 140737488355328) (hx : rows.length + more.length ≤ maxLen) :
    aappend P H t (.own b 0 rows.length sz ver) (mkL sz more) = some (.upd (.own b 0 (rows.length + more.length) sz (ver + 1)) b ⟨e, sz, ver + 1, true, rows.flatten ++ more.flatten, .cells⟩) := by
  obtain ⟨i, zv, hu, hi, hz, rfl, rfl, hpos, hzs, _, _⟩ := rowOk_at ht
  have hcond : (decide (0 < i.size) && zv.cells.size == i.size) = true := by simp [hpos, hzs]
  have hone : more.flatten.all one = true := by
    rw [List.all_flatten, List.all_eq_true]
    exact hm
  have hfl := flat_len' hr
  have hle : rows.length * i.size ≤ (rows.flatten ++ junk).length := by rw [List.length_append, hfl]; omega
  simp only [aappend, hu, hi, hz, hcond, if_true, elems_mkL, hone]
  rw [blkAt_some' hk rfl rfl]
  simp only [hle, decide_true, beq_self_eq_true, Bool.and_true, Bool.true_and]
  rw [if_pos (by simp; omega), if_neg (by simpa using hne), List.take_left' hfl]
section jumps
variable {P : Program} {call callD : Fun} {pure_ : FuncId → Bool} {dyn : Nat → Bool} {keep : Nat → Option (List Nat)} {n k : Nat}
def inScope (jump : Code → Code → St → Option (AX × St)) (b : Code) (r : Option (AX × St)) : Option (AX × St) := match r with
  | some (.goto l, s') => match findLabel b l with
    | some rest => jump b rest s'
    | none => some (.goto l, s')
  | r => r
theorem acode_scope {jump : Code → Code → St → Option (AX × St)} {b : Code} {s : St} : acode P call callD jump pure_ dyn keep n k (.scope b) s = inScope jump b (acode P call callD jump pure_ dyn keep n k b s) := by
  simp only [acode, inScope]
  rfl
theorem inScope_n {jump : Code → Code → St → Option (AX × St)} {b : Code} {s : St} : inScope jump b (some (.normal, s)) = some (.normal, s) := rfl
theorem inScope_r {jump : Code → Code → St → Option (AX × St)} {b : Code} {s : St} : inScope jump b (some (.ret, s)) = some (.ret, s) := rfl
theorem inScope_e {jump : Code → Code → St → Option (AX × St)} {b : Code} {i : Nat} {s : St} : inScope jump b (some (.exit i, s)) = some (.exit i, s) := rfl
def isGoto : AX → Bool
  | .goto _ => true
  | _ => false
theorem jump_T {b rest : Code} {l0 : Nat} (hl : findLabel b l0 = some rest) (I : Nat → St → Prop) (T : AX × St → Prop) (m : Nat)
    (hs : ∀ i, i < m → ∀ s j, I i s → (∃ s1, acode P call callD (jumpN P call callD pure_ dyn keep n k j) pure_ dyn keep n k rest s = some (.goto l0, s1) ∧ I (i + 1) s1) ∨ (∃ R, acode P call callD (jumpN P call callD pure_ dyn keep n k j) pure_ dyn keep n k rest s = some R ∧ isGoto R.1 = false ∧ T R))
    (he : ∀ s j, I m s → ∃ R, acode P call callD (jumpN P call callD pure_ dyn keep n k j) pure_ dyn keep n k rest s = some R ∧ isGoto R.1 = false ∧ T R) :
    ∀ (d i : Nat), i + d = m → ∀ (j : Nat), d < j → ∀ s, I i s → ∃ R, jumpN P call callD pure_ dyn keep n k j b rest s = some R ∧ T R := by
  have fin : ∀ (j : Nat) (s : St) (R : AX × St), acode P call callD (jumpN P call callD pure_ dyn keep n k j) pure_ dyn keep n k rest s = some R → isGoto R.1 = false → jumpN P call callD pure_ dyn keep n k (j + 1) b rest s = some R := by
    intro j s R e hg
    obtain ⟨x, s'⟩ := R
    simp only [jumpN, e]
    cases x <;> first | rfl | cases hg
  intro d
  induction d with
  | zero =>
    intro i hi j hj s hI
    obtain ⟨j, rfl⟩ : ∃ q, j = q + 1 := ⟨j - 1, by omega⟩
    obtain rfl : i = m := by omega
    obtain ⟨R, e, hg, hT⟩ := he s j hI
    exact ⟨R, fin j s R e hg, hT⟩
  | succ d ih =>
    intro i hi j hj s hI
    obtain ⟨j, rfl⟩ : ∃ q, j = q + 1 := ⟨j - 1, by omega⟩
    rcases hs i (by omega) s j hI with ⟨s1, e, h1⟩ | ⟨R, e, hg, hT⟩
    · obtain ⟨R, e2, hT⟩ := ih (i + 1) (by omega) j (by omega) s1 h1
      refine ⟨R, ?_, hT⟩
      simp only [jumpN, e, hl]
      exact e2
    · exact ⟨R, fin j s R e hg, hT⟩
theorem jump_Tx {b rest : Code} {j0 : Nat} {s0 : St} {J : Option (AX × St)} (hJ : jumpN P call callD pure_ dyn keep n k j0 b rest s0 = J) (l0 : Nat) (hl : findLabel b l0 = some rest) (I : Nat → St → Prop) (T : AX × St → Prop) (m : Nat) (hj : m < j0) (h0 : I 0 s0)
    (hs : ∀ i, i < m → ∀ s j, I i s → (∃ s1, acode P call callD (jumpN P call callD pure_ dyn keep n k j) pure_ dyn keep n k rest s = some (.goto l0, s1) ∧ I (i + 1) s1) ∨ (∃ R, acode P call callD (jumpN P call callD pure_ dyn keep n k j) pure_ dyn keep n k rest s = some R ∧ isGoto R.1 = false ∧ T R))
    (he : ∀ s j, I m s → ∃ R, acode P call callD (jumpN P call callD pure_ dyn keep n k j) pure_ dyn keep n k rest s = some R ∧ isGoto R.1 = false ∧ T R) : ∃ R, J = some R ∧ T R := by
  subst hJ
  exact jump_T hl I T m hs he m 0 (by omega) j0 hj s0 h0
end jumps
def findLoop (id : Nat) : Code → Option Code
  | .loop b => if firstId b = some id then some b else findLoop id b
  | .seq a b => match findLoop id a with
    | some c => some c
    | none => findLoop id b
  | .cond _ a b => match findLoop id a with
    | some c => some c
    | none => findLoop id b
  | .block _ b => findLoop id b
  | .scope b => findLoop id b
  | _ => none
def loopAt (f : Func) (id : Nat) : Code := match f.body with
  | some c => (findLoop id c).getD .skip
  | none => .skip
end Go.Proofs.YtigfnhbbfbnicaaA
