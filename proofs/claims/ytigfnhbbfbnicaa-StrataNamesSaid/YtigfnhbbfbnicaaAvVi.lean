/- The evaluator's equations: the lesser, and the greater, of two numbers; products, remainders. -/
import Derived.Test.YtigfnhbbfbnicaaAvVg
namespace Go.Proofs.YtigfnhbbfbnicaaA
open Go Go.RowKit
set_option linter.all false
set_option linter.unusedSectionVars false
set_option linter.constructorNameAsVariable false
set_option linter.unusedVariables false
set_option linter.unusedSimpArgs false
def aMin (P : Program) (x y : AV) : Option Res := match toV x, toV y with
  | some u, some v => (pOut P (Builtin.min_ #[] 0 #[u, v])).map .val
  | _, _ => none
def aMax (P : Program) (x y : AV) : Option Res := match toV x, toV y with
  | some u, some v => (pOut P (Builtin.max_ #[] 0 #[u, v])).map .val
  | _, _ => none
section
variable {P : Program} {H : List Blk} {ρ : Operand → AV} {d : Option Tmp} {t u ty : TypeId} {pos : String} {af : Array Edge} {g : Option (Nat × Bool)} {x y : Operand}
theorem sop_none2 {o : Oper} {x y : Operand} (ho : o.op.operands = #[x, y]) (h : toV (ρ x) = none ∨ toV (ρ y) = none) : sop P ρ o = none := by
  refine sop_no ?_
  rw [ho]
  rcases h with h | h <;> simp [h]
theorem aop_min : aop P H ρ ⟨d, .call ⟨.builtin .min, #[x, y], #[t, u]⟩, ty, pos, af, g⟩ = aMin P (ρ x) (ρ y) := by
  have hs : (sop P ρ ⟨d, .call ⟨.builtin .min, #[x, y], #[t, u]⟩, ty, pos, af, g⟩).map Res.val = aMin P (ρ x) (ρ y) := by
    unfold aMin
    cases h : toV (ρ x) with
    | none => rw [sop_none2 (x := x) (y := y) rfl (.inl h)]; rfl
    | some a =>
      cases h2 : toV (ρ y) with
      | none => rw [sop_none2 (x := x) (y := y) rfl (.inr h2)]; rfl
      | some b => rw [sop_v (s := Builtin.min_ #[] 0 #[a, b]) (by simp [Op.operands, Call.operands, h, h2]) rfl (by simp [execOp, resolve, invoke, builtin, h, h2, Builtin.min_])]
  rw [← hs]
  rfl
theorem aop_max : aop P H ρ ⟨d, .call ⟨.builtin .max, #[x, y], #[t, u]⟩, ty, pos, af, g⟩ = aMax P (ρ x) (ρ y) := by
  have hs : (sop P ρ ⟨d, .call ⟨.builtin .max, #[x, y], #[t, u]⟩, ty, pos, af, g⟩).map Res.val = aMax P (ρ x) (ρ y) := by
    unfold aMax
    cases h : toV (ρ x) with
    | none => rw [sop_none2 (x := x) (y := y) rfl (.inl h)]; rfl
    | some a =>
      cases h2 : toV (ρ y) with
      | none => rw [sop_none2 (x := x) (y := y) rfl (.inr h2)]; rfl
      | some b => rw [sop_v (s := Builtin.max_ #[] 0 #[a, b]) (by simp [Op.operands, Call.operands, h, h2]) rfl (by simp [execOp, resolve, invoke, builtin, h, h2, Builtin.max_])]
  rw [← hs]
  rfl
theorem aMin_int {k j : IntKind} {m n : Int} : aMin P (.sc (.int k m)) (.sc (.int j n)) = some (.val (.sc (.int k (if n < m then n else m)))) := by
  simp [aMin, toV, pOut, Builtin.min_, Builtin.min2, pureRun_pure, ofV]
theorem aMax_int {k j : IntKind} {m n : Int} : aMax P (.sc (.int k m)) (.sc (.int j n)) = some (.val (.sc (.int k (if m < n then n else m)))) := by
  simp [aMax, toV, pOut, Builtin.max_, Builtin.max2, pureRun_pure, ofV]
theorem aBin_mulI {p q : Operand} {k : IntKind} {m n : Int} : aBin P H .mul t p q (.sc (.int k m)) (.sc (.int k n)) = some (.val (.sc (.int k (k.wrap (m * n))))) := by
  unfold aBin
  rw [nilTest_flat' rfl rfl, ptrTest_flat' rfl]
  simp [toV, pOut, eqGuard, binOp, Op.intArith, pureRun, ofV, pureRun_bind, pureRun_pure, beq_int, bne_int]
theorem aBin_remI {p q : Operand} {k : IntKind} {m n : Int} (h : n ≠ 0) : aBin P H .rem t p q (.sc (.int k m)) (.sc (.int k n)) = some (.val (.sc (.int k (m.tmod n)))) := by
  unfold aBin
  rw [nilTest_flat' rfl rfl, ptrTest_flat' rfl]
  simp [toV, pOut, eqGuard, binOp, Op.intDiv, pureRun, ofV, pureRun_bind, pureRun_pure, beq_int, bne_int, h]
theorem ixo_eq {t e b j n sz ver i : Nat} {k : IntKind} (ht : P.underlying t = some (.slice e)) (hs : szOf P e = some sz) : aIndexAddr P H t (.own b j n sz ver) (.sc (.int k (i : Nat))) = (match blkAt H b ver with | some _ => if i < n then some (.val (.ptr b ((j + i) * sz) ver)) else none | none => none) := by
  unfold aIndexAddr
  rw [ht]
  simp only [aint]
  cases h : blkAt H b ver with
  | none => simp [h, hs]
  | some blk => simp [h, hs, Int.toNat_natCast]
def aClear (P : Program) (H : List Blk) (t : TypeId) (u : AV) (alt : Option Res) : Option Res := match P.underlying t with
  | some (.slice e) => match u with
    | .lst _ [] => some (.val (.tup []))
    | .own b o len sz ver => match blkAt H b ver, P.info? e with
      | some blk, some i => match i.zero with
        | some zv => if 0 < i.size && sz == i.size && zv.cells.size == i.size && zv.cells.toList.all Value.oneCell' && (o + len) * sz ≤ blk.cells.length then
            some (if len = 0 then .val (.tup []) else .upd (.tup []) b { blk with cells := splice blk.cells (o * sz) (List.replicate len (zv.cells.toList.map AV.sc)).flatten }) else none
        | none => none
      | _, _ => none
    | _ => alt
  | _ => none
theorem aop_clear : aop P H ρ ⟨d, .call ⟨.builtin .clear, #[x], #[t]⟩, ty, pos, af, g⟩ = aClear P H t (ρ x) ((sop P ρ ⟨d, .call ⟨.builtin .clear, #[x], #[t]⟩, ty, pos, af, g⟩).map .val) := rfl
def zerosOk (P : Program) (t e sz : Nat) (zs : List AV) : Bool := match P.underlying t, P.info? e with
  | some (.slice e'), some i => match i.zero with
    | some zv => Nat.beq e' e && i.size == sz && decide (0 < sz) && zv.cells.size == sz && zv.cells.toList.all Value.oneCell' && decide (zv.cells.toList.length = zs.length)
    | none => false
  | _, _ => false
theorem aClear_own {t e sz : Nat} {b o n ver : Nat} {zs : List AV} {alt : Option Res} (h : zerosOk P t e sz zs = true) (hz : ((P.info? e).bind (·.zero)).map (fun zv => zv.cells.toList.map AV.sc) = some zs) : aClear P H t (.own b o n sz ver) alt = (match blkAt H b ver with
    | some blk => if (o + n) * sz ≤ blk.cells.length then some (if n = 0 then .val (.tup []) else .upd (.tup []) b { blk with cells := splice blk.cells (o * sz) (List.replicate n zs).flatten }) else none
    | none => none) := by
  unfold zerosOk at h
  split at h <;> try (cases h; done)
  rename_i e' i hu hi
  split at h <;> try (cases h; done)
  rename_i zv hzv
  simp only [Bool.and_eq_true, beq_iff_eq, decide_eq_true_eq] at h
  obtain ⟨⟨⟨⟨⟨h1, h2⟩, h3⟩, h4⟩, h5⟩, h6⟩ := h
  cases Nat.eq_of_beq_eq_true h1
  rw [hi] at hz
  simp only [Option.bind_some, hzv, Option.map_some, Option.some.injEq] at hz
  subst h2
  unfold aClear
  rw [hu]
  dsimp only
  cases hb : blkAt H b ver with
  | none => rfl
  | some blk =>
    simp only [hi, hzv, hz]
    have : (decide (0 < i.size) && i.size == i.size && zv.cells.size == i.size && zv.cells.toList.all Value.oneCell' && decide ((o + n) * i.size ≤ blk.cells.length)) = decide ((o + n) * i.size ≤ blk.cells.length) := by
      simp only [h3, h4, h5, beq_self_eq_true, decide_true, Bool.and_self, Bool.true_and]
    rw [this]
    simp only [decide_eq_true_eq]
theorem ixa_eq {t e len i : Nat} {q : IntKind} {cs : List AV} (ht : P.underlying t = some (.array len e)) (hs : szOf P e = some 1) (hi : i < len) (hc : i ≤ cs.length) : aIndexAddr P H t (.ro cs) (.sc (.int q (i : Nat))) = some (.val (.ro (cs.drop i))) := by
  unfold aIndexAddr
  rw [ht]
  simp only [aint, hs, Nat.mul_one, Int.toNat_natCast]
  rw [if_pos (by simp; omega), if_pos hc]
theorem wrap_nat {a : Nat} (h : a < 9000000000000000000) : IntKind.i64.wrap (a : Int) = a := by
  simp [IntKind.wrap, IntKind.bits, IntKind.signed]; omega
theorem wrap_i64 {a : Int} (h1 : -9000000000000000000 < a) (h : a < 9000000000000000000) : IntKind.i64.wrap a = a := by
  simp [IntKind.wrap, IntKind.bits, IntKind.signed]; omega
end
/-- A literal's elements, numbered. -/
def numbered : Nat → List AV → List (Nat × AV)
  | _, [] => []
  | k, u :: us => (k, u) :: numbered (k + 1) us
theorem afill_rows {sz : Nat} : ∀ (us : List AV) (pre z : List AV) (k : Nat), pre.length = k * sz → z.length = us.length * sz → (∀ u ∈ us, solid u = true ∧ (acells u).length = sz) → afill (fun j => some (j * sz, sz)) (pre ++ z) (numbered k us) = some (pre ++ (us.map acells).flatten)
  | [], pre, z, k, h1, h2, h3 => by
    have : z = [] := by simpa using h2
    subst this
    simp [numbered, afill]
  | u :: us, pre, z, k, h1, h2, h3 => by
    obtain ⟨hs, hl⟩ := h3 u (by simp)
    simp only [List.length_cons, Nat.add_mul, Nat.one_mul] at h2
    have hc : (solid u && (acells u).length == sz && decide (k * sz + sz ≤ (pre ++ z).length)) = true := by
      rw [hs, hl, List.length_append, h1, h2]
      simp
    have hsp : splice (pre ++ z) (k * sz) (acells u) = (pre ++ acells u) ++ z.drop sz := by
      unfold splice
      rw [← h1, List.take_left', hl, List.drop_append, List.drop_eq_nil_of_le (by omega), List.nil_append]
      · congr 2
        omega
      · rfl
    simp only [numbered, afill]
    rw [if_pos hc, hsp]
    rw [afill_rows us (pre ++ acells u) (z.drop sz) (k + 1) (by rw [List.length_append, h1, hl, Nat.add_mul, Nat.one_mul]) (by rw [List.length_drop]; omega) (fun v hv => h3 v (by simp [hv]))]
    simp
def aBSL (P : Program) (H : List Blk) (t : TypeId) (len : Nat) (l : List (Nat × AV)) : Option Res :=
    match P.underlying t with
    | some (.slice e) =>
      match P.info? e with
      | some i => match i.zero with
        | some zv =>
          if 0 < i.size && zv.cells.size == i.size && zv.cells.toList.all Value.oneCell' && len * i.size ≤ 16777216 then
            match afill (fun j => some (j * i.size, i.size)) ((List.replicate len (zv.cells.toList.map AV.sc)).flatten) l with
            | some cs => if cs.all one then some (.new (if len = 0 then .z else .own H.length 0 len i.size 0) ⟨e, i.size, 0, true, cs, .cells⟩) else none
            | none => none
          else none
        | none => none
      | none => none
    | _ => none
theorem bsl_eq {P : Program} {H : List Blk} {t e : TypeId} {sz bytes : Nat} (us : List AV) (ht : rowOk P t e sz bytes = true) (hn : us ≠ []) (hb : us.length * sz ≤ 16777216) (h : ∀ u ∈ us, solid u = true ∧ (acells u).length = sz ∧ (acells u).all one = true) :
    aBSL P H t us.length (numbered 0 us) = some (.new (.own H.length 0 us.length sz 0) ⟨e, sz, 0, true, (us.map acells).flatten, .cells⟩) := by
  obtain ⟨i, zv, hu, hi, hz, rfl, rfl, hpos, hzs, hz1, hbig⟩ := rowOk_at ht
  have hcond : (decide (0 < i.size) && zv.cells.size == i.size && zv.cells.toList.all Value.oneCell' && decide (us.length * i.size ≤ 16777216)) = true := by
    simp only [Bool.and_eq_true, decide_eq_true_eq, beq_iff_eq]
    exact ⟨⟨⟨hpos, hzs⟩, hz1⟩, hb⟩
  have hzl : ((List.replicate us.length (zv.cells.toList.map AV.sc)).flatten).length = us.length * i.size := by
    rw [flat_len' (sz := i.size)]
    · simp
    · intro r hr
      obtain ⟨_, rfl⟩ := List.mem_replicate.1 hr
      simpa using hzs
  have hf := afill_rows (sz := i.size) us [] _ 0 (by simp) hzl (fun u hu => ⟨(h u hu).1, (h u hu).2.1⟩)
  simp only [List.nil_append] at hf
  have hone : ((us.map acells).flatten).all one = true := by
    rw [List.all_flatten, List.all_eq_true]
    intro r hr
    obtain ⟨u, hu, rfl⟩ := List.mem_map.1 hr
    exact (h u hu).2.2
  have hl0 : us.length ≠ 0 := fun h => hn (List.length_eq_zero_iff.1 h)
  simp only [aBSL, hu, hi, hz]
  rw [if_pos hcond, hf]
  simp only [hone, if_true, if_neg hl0]
def okU (sz : Nat) (u : AV) : Bool := solid u && decide ((acells u).length = sz) && (acells u).all one
theorem okU_at {sz : Nat} {u : AV} (h : okU sz u = true) : solid u = true ∧ (acells u).length = sz ∧ (acells u).all one = true := by
  unfold okU at h
  simp only [Bool.and_eq_true, decide_eq_true_eq] at h
  exact ⟨h.1.1, h.1.2, h.2⟩
theorem bs2_if {P : Program} {H : List Blk} {ρ : Operand → AV} {d : Option Tmp} {ty t e : TypeId} {sz bytes : Nat} {x y : Operand} {pos : String} {af : Array Edge} {g : Option (Nat × Bool)} (ht : rowOk P t e sz bytes = true) (hb : 2 * sz ≤ 16777216) : aop P H ρ ⟨d, .buildSlice t 2 #[(0, x), (1, y)], ty, pos, af, g⟩ = if (okU sz (ρ x) && okU sz (ρ y)) = true then some (.new (.own H.length 0 2 sz 0) ⟨e, sz, 0, true, acells (ρ x) ++ acells (ρ y), .cells⟩) else aBSL P H t 2 [(0, ρ x), (1, ρ y)] := by
  split
  · rename_i h
    simp only [Bool.and_eq_true] at h
    have := bsl_eq (H := H) [ρ x, ρ y] ht (by simp) (by simpa using hb) (fun u hu => by
      simp only [List.mem_cons, List.not_mem_nil, or_false] at hu
      rcases hu with rfl | rfl
      · exact okU_at h.1
      · exact okU_at h.2)
    simp only [List.length_cons, List.length_nil, List.map_cons, List.map_nil, List.flatten_cons, List.flatten_nil, List.append_nil] at this
    exact this
  · rfl
theorem bs3_if {P : Program} {H : List Blk} {ρ : Operand → AV} {d : Option Tmp} {ty t e : TypeId} {sz bytes : Nat} {x y z : Operand} {pos : String} {af : Array Edge} {g : Option (Nat × Bool)} (ht : rowOk P t e sz bytes = true) (hb : 3 * sz ≤ 16777216) : aop P H ρ ⟨d, .buildSlice t 3 #[(0, x), (1, y), (2, z)], ty, pos, af, g⟩ = if (okU sz (ρ x) && okU sz (ρ y) && okU sz (ρ z)) = true then some (.new (.own H.length 0 3 sz 0) ⟨e, sz, 0, true, acells (ρ x) ++ (acells (ρ y) ++ acells (ρ z)), .cells⟩) else aBSL P H t 3 [(0, ρ x), (1, ρ y), (2, ρ z)] := by
  split
  · rename_i h
    simp only [Bool.and_eq_true] at h
    have := bsl_eq (H := H) [ρ x, ρ y, ρ z] ht (by simp) (by simpa using hb) (fun u hu => by
      simp only [List.mem_cons, List.not_mem_nil, or_false] at hu
      rcases hu with rfl | rfl | rfl
      · exact okU_at h.1.1
      · exact okU_at h.1.2
      · exact okU_at h.2)
    simp only [List.length_cons, List.length_nil, List.map_cons, List.map_nil, List.flatten_cons, List.flatten_nil, List.append_nil] at this
    exact this
  · rfl
theorem aloop_eqR {call callD : Fun} {jump : Code → Code → St → Option (AX × St)} {pure_ : FuncId → Bool} {dyn : Nat → Bool} {keep : Nat → Option (List Nat)} {n k : Nat} {P : Program} {b : Code} {s0 : St} {A : Option (AX × St)} (hA : aloop P call callD jump pure_ dyn keep n k b s0 = A) (L : List Nat) (S : Nat → St) (m : Nat) (hk : m < k) (hL : (firstId b).bind keep = some L) (h0 : pr L s0 = S 0)
    (hs : ∀ j, j < m → aft L (acode P call callD jump pure_ dyn keep n k b (S j)) = some (.normal, S (j + 1))) {R : AX × St} (he : acode P call callD jump pure_ dyn keep n k b (S m) = some R) (hR : ends (some R) = true) : A = some R := by
  subst hA
  rw [aloop_eq L S m hk hL h0 hs (by rw [he]; exact hR), he]
theorem aloop_T {call callD : Fun} {jump : Code → Code → St → Option (AX × St)} {pure_ : FuncId → Bool} {dyn : Nat → Bool} {keep : Nat → Option (List Nat)} {n k : Nat} {P : Program} {b : Code} {s0 : St} {A : Option (AX × St)} (hA : aloop P call callD jump pure_ dyn keep n k b s0 = A) (L : List Nat) (I : Nat → St → Prop) (T : AX × St → Prop) (m : Nat) (hk : m < k) (hL : (firstId b).bind keep = some L) (h0 : I 0 (pr L s0))
    (hs : ∀ j, j < m → ∀ s, I j s → (∃ s1, aft L (acode P call callD jump pure_ dyn keep n k b s) = some (.normal, s1) ∧ I (j + 1) s1) ∨ (∃ R, acode P call callD jump pure_ dyn keep n k b s = some R ∧ ends (some R) = true ∧ T R))
    (he : ∀ s, I m s → ∃ R, acode P call callD jump pure_ dyn keep n k b s = some R ∧ ends (some R) = true ∧ T R) : ∃ R, A = some R ∧ T R := by
  obtain ⟨j, s, hj, hI, ⟨R, h1, h2⟩, e⟩ := aloop_last hA L I (fun j s => ∃ R, acode P call callD jump pure_ dyn keep n k b s = some R ∧ T R) m hk hL h0 (fun j hj s hI => by
    by_cases h : j < m
    · rcases hs j h s hI with ⟨s1, e, h1⟩ | ⟨R, e, hR, hT⟩
      · left; exact ⟨h, s1, e, h1⟩
      · right; exact ⟨⟨R, e, hT⟩, by rw [e]; exact hR⟩
    · obtain rfl : j = m := by omega
      obtain ⟨R, e, hR, hT⟩ := he s hI
      right; exact ⟨⟨R, e, hT⟩, by rw [e]; exact hR⟩)
  exact ⟨R, by rw [e, h1], h2⟩
/-- Memory in which one block is a row. -/
def HB (H : List Blk) (b e sz ver : Nat) (rows : List (List AV)) : List Blk := H.set b ⟨e, sz, ver, true, rows.flatten, .cells⟩
section
variable {P : Program} {H : List Blk} {b e sz ver : Nat} {rows : List (List AV)}
theorem hb_get (hb : b < H.length) : (HB H b e sz ver rows)[b]? = some ⟨e, sz, ver, true, rows.flatten, .cells⟩ := by
  unfold HB
  rw [List.getElem?_set_self hb]
theorem hb_at (hb : b < H.length) : blkAt (HB H b e sz ver rows) b ver = some ⟨e, sz, ver, true, rows.flatten, .cells⟩ := blkAt_some' (hb_get hb) rfl rfl
theorem hb_self (h : H[b]? = some ⟨e, sz, ver, true, rows.flatten, .cells⟩) : HB H b e sz ver rows = H := by
  unfold HB
  obtain ⟨hb, h⟩ := List.getElem?_eq_some_iff.1 h
  rw [← h, List.set_getElem_self]
theorem hb_set {rows2 : List (List AV)} : (HB H b e sz ver rows).set b ⟨e, sz, ver, true, rows2.flatten, .cells⟩ = HB H b e sz ver rows2 := by
  unfold HB
  rw [List.set_set]
theorem hb_index {t o n i : Nat} {q : IntKind} (ht : P.underlying t = some (.slice e)) (hs : szOf P e = some sz) (hb : b < H.length) (hi : i < n) : aIndexAddr P (HB H b e sz ver rows) t (.own b o n sz ver) (.sc (.int q (i : Nat))) = some (.val (.ptr b ((o + i) * sz) ver)) := aIndexAddr_own ht hs (hb_at hb) hi
theorem flat_len2 (hr : ∀ r ∈ rows, r.length = sz) : rows.flatten.length = rows.length * sz := flat_len' hr
theorem rd_row {i : Nat} {r : List AV} (hr : ∀ r ∈ rows, r.length = sz) (hi : rows[i]? = some r) : rdCells rows.flatten (i * sz) sz = some r := by
  have hlt : i < rows.length := by rcases Nat.lt_or_ge i rows.length with h | h; exact h; rw [List.getElem?_eq_none h] at hi; cases hi
  have hle : i * sz + sz ≤ rows.length * sz := by
    have := Nat.mul_le_mul_right sz (show i + 1 ≤ rows.length from hlt)
    rwa [Nat.add_mul, Nat.one_mul] at this
  unfold rdCells
  rw [if_pos (by rw [flat_len2 hr]; exact hle), flat_at hr hi]
theorem splice_row {i : Nat} {r : List AV} (hr : ∀ r ∈ rows, r.length = sz) (hl : r.length = sz) (hi : i < rows.length) : splice rows.flatten (i * sz) r = (rows.set i r).flatten := by
  unfold splice
  have h1 : rows.flatten.take (i * sz) = (rows.take i).flatten := by
    have e0 : rows.flatten = (rows.take i).flatten ++ (rows.drop i).flatten := by rw [← List.flatten_append, List.take_append_drop]
    rw [e0, List.take_left']
    rw [flat_len' (fun x hx => hr x (List.mem_of_mem_take hx)), List.length_take, Nat.min_eq_left (by omega)]
  have h2 : rows.flatten.drop (i * sz + r.length) = (rows.drop (i + 1)).flatten := by
    rw [hl, flat_drop (i + 1) hr, Nat.add_mul, Nat.one_mul]
  rw [h1, h2, List.set_eq_take_append_cons_drop, if_pos hi]
  simp
theorem hb_store {i : Nat} {x : AV} (hs : szOf P e = some sz) (hb : b < H.length) (hr : ∀ r ∈ rows, r.length = sz) (hi : i < rows.length) (hx : solid x = true) (hl : (acells x).length = sz) (hone : (acells x).all one = true) : aStore P (HB H b e sz ver rows) e (.ptr b (i * sz) ver) x = some (.upd .bad b ⟨e, sz, ver, true, (rows.set i (acells x)).flatten, .cells⟩) := by
  have hle : i * sz + sz ≤ rows.flatten.length := by
    have := Nat.mul_le_mul_right sz (show i + 1 ≤ rows.length from hi)
    rw [flat_len2 hr]
    rwa [Nat.add_mul, Nat.one_mul] at this
  unfold aStore
  rw [hs]
  dsimp only
  rw [hb_at hb]
  dsimp only
  rw [if_pos (by simp only [hx, hone, hl, Bool.and_eq_true, beq_self_eq_true, decide_eq_true_eq, Bool.and_self, true_and, and_self]; exact hle), splice_row hr hl hi]
end
end Go.Proofs.YtigfnhbbfbnicaaA
