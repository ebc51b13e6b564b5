/- A part of the proof of MagicAsks: functions of the program, run by the evaluator. -/

/- Running by hand: rows that grow; lists that come in. -/
import Derived.Test.YtpgipdajinkdgaaGreatAvW
namespace Go.Proofs.YtpgipdajinkdgaaGreatA
open Go Go.RowKit
set_option linter.all false
set_option linter.unusedSectionVars false
set_option linter.constructorNameAsVariable false
set_option linter.unusedVariables false
set_option linter.unusedSimpArgs false
section
variable {P : Program} {call callD : Fun} {jump : Code → Code → St → Option (AX × St)} {pure_ : FuncId → Bool} {dyn : Nat → Bool} {keep : Nat → Option (List Nat)} {n k K : Nat} {ops : Array Oper} {E : Env} {H : List Blk} {ρ : Operand → AV} {d : Option Tmp} {op : Op} {ty : TypeId} {pos : String} {af : Array Edge} {g : Option (Nat × Bool)} {os : List Oper}
theorem loop_inv {b : Code} (I : Nat → St → Prop) (Q : AX → St → Prop) : ∀ (m i k : Nat) (s0 : St), I i (prn keep b s0) →
    (∀ j, i ≤ j → j < i + m → ∀ s, I j s → ∃ s1, acode P call callD jump pure_ dyn keep n K b s = some (.normal, s1) ∧ I (j + 1) (prn keep b s1)) →
    (∀ s, I (i + m) s → ∃ x s', acode P call callD jump pure_ dyn keep n K b s = some (x, s') ∧ x ≠ .normal ∧ Q x s') → m < k →
    ∃ x s', loopN (fun s => acode P call callD jump pure_ dyn keep n K b (prn keep b s)) k s0 = some (x, s') ∧ Q x s'
  | 0, i, k, s0, h0, _, he, hk => by
    obtain ⟨k, rfl⟩ : ∃ j, k = j + 1 := ⟨k - 1, by omega⟩
    obtain ⟨x, s', e, hx, hq⟩ := he _ (by rw [Nat.add_zero]; exact h0)
    refine ⟨x, s', ?_, hq⟩
    simp only [loopN]
    rw [e]
    cases x <;> first | rfl | exact absurd rfl hx
  | m + 1, i, k, s0, h0, hs, he, hk => by
    obtain ⟨k, rfl⟩ : ∃ j, k = j + 1 := ⟨k - 1, by omega⟩
    obtain ⟨s1, e1, h1⟩ := hs i (Nat.le_refl _) (by omega) _ h0
    obtain ⟨x, s', e, hq⟩ := loop_inv I Q m (i + 1) k s1 h1 (fun j h1 h2 => hs j (by omega) (by omega)) (by rw [show i + 1 + m = i + (m + 1) by omega]; exact he) (by omega)
    refine ⟨x, s', ?_, hq⟩
    simp only [loopN]
    rw [e1]
    exact e
theorem aloop_inv {b : Code} {s0 : St} (L : List Nat) (I : Nat → St → Prop) (Q : AX → St → Prop) (m : Nat) (hk : m < k) (hL : (firstId b).bind keep = some L) (h0 : I 0 (pr L s0))
    (hs : ∀ j, j < m → ∀ s, I j s → ∃ s1, acode P call callD jump pure_ dyn keep n k b s = some (.normal, s1) ∧ I (j + 1) (pr L s1))
    (he : ∀ s, I m s → ∃ x s', acode P call callD jump pure_ dyn keep n k b s = some (x, s') ∧ x ≠ .normal ∧ Q x s') : ∃ x s', aloop P call callD jump pure_ dyn keep n k b s0 = some (x, s') ∧ Q x s' := by
  have hp : prn keep b = pr L := by
    funext s
    unfold prn pr
    rw [hL]
    rfl
  exact loop_inv I Q m 0 k s0 (by rw [hp]; exact h0) (fun j _ h s hi => by rw [hp]; exact hs j (by omega) s hi) (by rw [Nat.zero_add]; exact he) hk
theorem aloop_inv2 {b : Code} {s0 : St} {A : Option (AX × St)} (hA : aloop P call callD jump pure_ dyn keep n k b s0 = A) (L : List Nat) (I : Nat → St → Prop) (m : Nat) (hk : m < k) (hL : (firstId b).bind keep = some L) (h0 : I 0 (pr L s0))
    (hs : ∀ j, j < m → ∀ s, I j s → ∃ s1, aft L (acode P call callD jump pure_ dyn keep n k b s) = some (.normal, s1) ∧ I (j + 1) s1)
    (he : ∀ s, I m s → ends (acode P call callD jump pure_ dyn keep n k b s) = true) : ∃ s, I m s ∧ A = acode P call callD jump pure_ dyn keep n k b s := by
  subst hA
  obtain ⟨x, s', e, s, hI, hq⟩ := aloop_inv L I (fun x s' => ∃ s, I m s ∧ acode P call callD jump pure_ dyn keep n k b s = some (x, s')) m hk hL h0 (fun j hj s hI => by
    obtain ⟨s1, e1, h1⟩ := hs j hj s hI
    obtain ⟨⟨x2, s2⟩, e2, e3⟩ := Option.map_eq_some_iff.1 e1
    simp only [Prod.mk.injEq] at e3
    obtain ⟨e4, e5⟩ := e3
    subst e4
    exact ⟨s2, e2, by rw [e5]; exact h1⟩) (fun s hI => by
    have := he s hI
    cases h : acode P call callD jump pure_ dyn keep n k b s with
    | none => rw [h] at this; cases this
    | some p =>
      obtain ⟨x, s'⟩ := p
      rw [h] at this
      exact ⟨x, s', rfl, (by rintro rfl; cases this), s, hI, h⟩)
  exact ⟨s, hI, by rw [e, hq]⟩
theorem aop_makeFunc {f : FuncId} {caps : Array Operand} : aop P H ρ ⟨d, .makeFunc (.func f) #[] caps, ty, pos, af, g⟩ = some (.val (.fn f (caps.toList.map ρ))) := rfl
theorem aop_append {s x : Operand} {t u : TypeId} : aop P H ρ ⟨d, .call ⟨.builtin .append, #[s, x], #[t, u]⟩, ty, pos, af, g⟩ = if t = u then aappend P H t (ρ s) (ρ x) else aappend2 P H t u (ρ s) (ρ x) := rfl
def OutAt (e : TypeId) (sz : Nat) (H : List Blk) (v : AV) (rows : List (List AV)) : Prop :=
  (rows = [] ∧ v = .sc (.slice none 0 0)) ∨ (rows ≠ [] ∧ ∃ b ver, v = .own b 0 rows.length sz ver ∧ H[b]? = some ⟨e, sz, ver, true, rows.flatten, .cells⟩)
theorem flat_len' {sz : Nat} : ∀ {rows : List (List AV)}, (∀ r ∈ rows, r.length = sz) → rows.flatten.length = rows.length * sz
  | [], _ => by simp
  | r :: rs, h => by
    have := flat_len' (rows := rs) (fun x hx => h x (by simp [hx]))
    simp only [List.flatten_cons, List.length_append, this, h r (by simp), List.length_cons, Nat.add_mul, Nat.one_mul]
    omega
theorem blkAt_some' {b ver : Nat} {blk : Blk} (h : H[b]? = some blk) (h1 : blk.kind = .cells) (h2 : blk.ver = ver) : blkAt H b ver = some blk := by
  rw [blkAt_eq, h]
  dsimp only
  rw [h1, if_pos h2]
theorem blkR_some' {b ver : Nat} {blk : Blk} (h : H[b]? = some blk) (h1 : blk.kind = .cells) (h2 : blk.ver = ver) : blkR H b ver = some blk := blkR_of (blkAt_some' h h1 h2)
theorem blkR_eq {b ver : Nat} : blkR H b ver = match blkAt H b ver with
  | some blk => some blk
  | none => match appAt H b ver with
    | some blk => some blk
    | none => aliAt H b ver := rfl
theorem appAt_some' {b ver : Nat} {blk : Blk} (h : H[b]? = some blk) (h1 : blk.kind = .app) (h2 : blk.ver = ver) : appAt H b ver = some blk := by
  unfold appAt
  rw [h]
  dsimp only
  rw [h1]
  subst h2
  simp
theorem aliAt_some' {b ver : Nat} {blk : Blk} (h : H[b]? = some blk) (h1 : blk.kind = .ali) (h2 : blk.ver = ver) : aliAt H b ver = some blk := by
  unfold aliAt
  rw [h]
  dsimp only
  rw [h1]
  subst h2
  simp
theorem blkAt_not {b ver : Nat} {blk : Blk} (h : H[b]? = some blk) (h1 : blk.kind = .app ∨ blk.kind = .ali) : blkAt H b ver = none := by
  rw [blkAt_eq, h]
  dsimp only
  rcases h1 with h1 | h1 <;> rw [h1]
theorem blkR_app {b ver : Nat} {blk : Blk} (h : H[b]? = some blk) (h1 : blk.kind = .app) (h2 : blk.ver = ver) : blkR H b ver = some blk := by
  rw [blkR_eq, blkAt_not h (.inl h1), appAt_some' h h1 h2]
theorem blkR_ali {b ver : Nat} {blk : Blk} (h : H[b]? = some blk) (h1 : blk.kind = .ali) (h2 : blk.ver = ver) : blkR H b ver = some blk := by
  have : appAt H b ver = none := by
    unfold appAt
    rw [h]
    dsimp only
    rw [h1]
  rw [blkR_eq, blkAt_not h (.inr h1), this, aliAt_some' h h1 h2]
theorem build_one {t e : TypeId} {i : TypeInfo} {zv : Value} {x : Operand} {cs : List AV} (hu : P.underlying t = some (.slice e)) (hi : P.info? e = some i) (hz : i.zero = some zv) (hpos : 0 < i.size) (hzs : zv.cells.size = i.size) (hz1 : zv.cells.toList.all Value.oneCell' = true) (hbig : i.size ≤ 16777216)
    (hx : solid (ρ x) = true) (hc : acells (ρ x) = cs) (hl : cs.length = i.size) (hone : cs.all one = true) :
    aop P H ρ ⟨d, .buildSlice t 1 #[(0, x)], ty, pos, af, g⟩ = some (.new (.own H.length 0 1 i.size 0) ⟨e, i.size, 0, true, cs, .cells⟩) := by
  have hzl : zv.cells.toList.length = i.size := by simpa using hzs
  simp only [aop, hu, hi, hz]
  rw [if_pos (by rw [hz1]; simp [hpos, hzs, hbig])]
  simp only [List.map_cons, List.map_nil, afill, hx, hc, hl, Nat.zero_mul, Nat.zero_add, List.replicate_one, List.flatten_cons, List.flatten_nil, List.append_nil, List.length_map, hzl, beq_self_eq_true, Nat.le_refl, decide_true, Bool.and_self, if_true, splice, List.take_zero, List.nil_append]
  rw [List.drop_eq_nil_of_le (by simp [hzl, hl]), List.append_nil, if_pos hone]
  rfl
theorem aLen_mkL {t e : TypeId} {sz : Nat} {rows : List (List AV)} (hu : P.underlying t = some (.slice e)) : aLen P H t (mkL sz rows) = some (.val (.sc (.int .i64 rows.length))) := by
  cases rows with
  | nil => exact aLen_slice hu rfl
  | cons r rs => exact aLen_slice hu rfl
theorem ix_mkL {t e : TypeId} {sz : Nat} {rows : List (List AV)} {k : IntKind} {i : Nat} (hu : P.underlying t = some (.slice e)) (hs : szOf P e = some sz) (hpos : 0 < sz) : aIndexAddr P H t (mkL sz rows) (.sc (.int k (i : Nat))) = (rows[i]?).map fun r => .val (.ro r) := by
  cases rows with
  | nil =>
    simp only [mkL, aIndexAddr, hu, aint, hs]
    simp
  | cons r rs =>
    simp only [mkL, aIndexAddr, hu, aint, hs]
    simp [hpos]
theorem rb_mkL {k sz : Nat} {rows : List (List AV)} : rb H (k + 1) (mkL sz rows) = some (mkL sz rows) := by
  cases rows <;> rfl
theorem pv_mkL {k sz : Nat} {rows : List (List AV)} : pv (k + 1) (mkL sz rows) = true := by
  cases rows <;> rfl
theorem one_mkL {sz : Nat} {rows : List (List AV)} : one (mkL sz rows) = true := by
  cases rows <;> rfl
theorem solid_mkL {sz : Nat} {rows : List (List AV)} : solid (mkL sz rows) = true := by
  cases rows <;> rfl
theorem acells_mkL {sz : Nat} {rows : List (List AV)} : acells (mkL sz rows) = [mkL sz rows] := by
  cases rows <;> rfl
theorem rb_int {k : Nat} {i : IntKind} {m : Int} : rb H (k + 1) (.sc (.int i m)) = some (.sc (.int i m)) := rfl
theorem rb_str {k : Nat} {b : ByteArray} : rb H (k + 1) (.sc (.string b)) = some (.sc (.string b)) := rfl
theorem rb_bool {k : Nat} {b : Bool} : rb H (k + 1) (.sc (.bool b)) = some (.sc (.bool b)) := rfl
theorem rb_nil {k : Nat} : rb H (k + 1) (.sc (.slice none 0 0)) = some (.lst 0 []) := rfl
theorem rb_z {k : Nat} : rb H (k + 1) .z = some (.lst 0 []) := rfl
theorem rb_agg {k : Nat} {cs : List AV} : rb H (k + 1) (.agg cs) = (amap (rb H k) cs).map .agg := rfl
theorem rb_tup {k : Nat} {cs : List AV} : rb H (k + 1) (.tup cs) = (amap (rb H k) cs).map .tup := rfl
theorem rb_ro {k : Nat} {cs : List AV} : rb H (k + 1) (.ro cs) = (amap (rb H k) cs).map .ro := rfl
theorem rb_fn {k : Nat} {f : FuncId} {cs : List AV} : rb H (k + 1) (.fn f cs) = (amap (rb H k) cs).map (.fn f) := rfl
theorem amap_nil {f : AV → Option AV} : amap f [] = some [] := rfl
theorem amap_cons {f : AV → Option AV} {x : AV} {xs : List AV} : amap f (x :: xs) = (f x).bind fun y => (amap f xs).map (y :: ·) := by
  have e : amap f (x :: xs) = match f x, amap f xs with
    | some y, some ys => some (y :: ys)
    | _, _ => none := rfl
  rw [e]
  cases f x with
  | none => rfl
  | some y => cases h : amap f xs <;> rfl
theorem mkL_nil {sz : Nat} : mkL sz [] = .lst 0 [] := rfl
theorem lst0 : AV.lst 0 [] = mkL 0 [] := rfl
def Stays (x : AV) : Prop := ∀ (H : List Blk) (k : Nat), rb H (k + 1) x = some x
theorem amap_stays {k : Nat} : ∀ {l : List AV}, (∀ x ∈ l, Stays x) → amap (rb H (k + 1)) l = some l
  | [], _ => rfl
  | x :: l, h => by
    have e := h x (by simp) H k
    have ih := amap_stays (k := k) (l := l) (fun y hy => h y (by simp [hy]))
    unfold amap
    rw [e, ih]
theorem stays_int {k : IntKind} {m : Int} : Stays (.sc (.int k m)) := fun _ _ => rfl
theorem stays_str {b : ByteArray} : Stays (.sc (.string b)) := fun _ _ => rfl
theorem stays_bool {b : Bool} : Stays (.sc (.bool b)) := fun _ _ => rfl
theorem stays_mkL {sz : Nat} {rows : List (List AV)} : Stays (mkL sz rows) := fun _ _ => rb_mkL
theorem chunks_flat' {sz : Nat} : ∀ {rows : List (List AV)}, (∀ r ∈ rows, r.length = sz) → chunks sz rows.length rows.flatten = rows
  | [], _ => rfl
  | r :: rs, h => by
    have hl := h r (by simp)
    simp only [List.length_cons, chunks, List.flatten_cons]
    rw [List.take_append_of_le_length (by omega), List.drop_append_of_le_length (by omega), ← hl, List.take_length, List.drop_length, List.nil_append, hl, chunks_flat' (fun x hx => h x (by simp [hx]))]
theorem rb_out {e : TypeId} {sz k : Nat} {v : AV} {rows : List (List AV)} (h : OutAt e sz H v rows) (hr : ∀ r ∈ rows, r.length = sz) (hs : ∀ r ∈ rows, ∀ x ∈ r, Stays x) :
    rb H (k + 2) v = some (mkL sz rows) := by
  rcases h with ⟨rfl, rfl⟩ | ⟨hne, b, ver, rfl, hk⟩
  · rfl
  · have e : rb H (k + 2) (.own b 0 rows.length sz ver) = (match blkR H b ver with
      | some blk => match rdCells blk.cells (0 * sz) (rows.length * sz) with
        | some cs => (amap (rb H (k + 1)) cs).map fun l => mkL sz (chunks sz rows.length l)
        | none => none
      | none => none) := rfl
    rw [e, blkR_some' hk rfl rfl]
    simp only [rdCells, Nat.zero_mul, Nat.zero_add, flat_len' hr, Nat.le_refl, if_true, List.drop_zero]
    rw [← flat_len' hr, List.take_length, amap_stays (fun x hx => by
      obtain ⟨r, hr', hx⟩ := List.mem_flatten.1 hx
      exact hs r hr' x hx)]
    simp only [Option.map_some, chunks_flat' hr]
theorem fresh_out {e : TypeId} {sz : Nat} {v : AV} {rows : List (List AV)} (h : OutAt e sz H v rows) (hr : ∀ r ∈ rows, r.length = sz) (hs : ∀ r ∈ rows, ∀ x ∈ r, ∃ u, x = .sc u) : freshR H v = true := by
  rcases h with ⟨rfl, rfl⟩ | ⟨hne, b, ver, rfl, hk⟩
  · rfl
  · unfold freshR
    rw [Bool.or_eq_true]
    left
    simp only [freshR0]
    rw [blkAt_some' hk rfl rfl]
    simp only [rdCells, Nat.zero_mul, Nat.zero_add, flat_len' hr, Nat.le_refl, if_true, List.drop_zero]
    rw [← flat_len' hr, List.take_length]
    have : ∀ cs : List AV, (∀ x ∈ cs, ∃ v, x = .sc v) → (toVs cs).isSome = true := by
      intro cs
      induction cs with
      | nil => intro _; rfl
      | cons x cs ih =>
        intro hx
        obtain ⟨v, rfl⟩ := hx x (by simp)
        have := ih (fun y hy => hx y (by simp [hy]))
        simp only [toVs, Option.isSome_map, this]
    exact this _ (fun x hx => by
      obtain ⟨r, hr', hx⟩ := List.mem_flatten.1 hx
      exact hs r hr' x hx)
theorem acallH_value {f : Operand} {as : Array Operand} {ts : Array TypeId} : acallH P call H (aeval E) ⟨d, .call ⟨.value f, as, ts⟩, ty, pos, af, g⟩ = callR P call H (aeval E f) (as.toList.map (aeval E)) := by
  cases h : aeval E f with
  | fn g' caps => rw [← h]; exact acallH_call h
  | _ => simp only [acallH, callee, h, aopH, aop, callR]
def noExt (P : Program) (f : FuncId) : Bool := match P.funcs[f]? with
  | some fn => fn.body.isSome
  | none => true
theorem aext_none {f : FuncId} {args : List AV} (h : noExt P f = true) : aext P f args = none := by
  unfold aext
  unfold noExt at h
  cases hf : P.funcs[f]? with
  | none => rfl
  | some fn =>
    rw [hf] at h
    simp only at h ⊢
    cases hb : fn.body with
    | none => rw [hb] at h; cases h
    | some c => simp
def val (P : Program) (C : Cfg) (k : Nat) (f : FuncId) (as : List AV) : Option AV := match arun P C k f as [] with
  | some (r, H1) => if freshR H1 r then rb H1 depth r else none
  | none => none
def valD (P : Program) (C : Cfg) (k : Nat) (f : FuncId) (as : List AV) : Option AV := match arun P C k f as [] with
  | some (r, H1) => rb H1 depth r
  | none => none
theorem val_of {C : Cfg} {f : FuncId} {as : List AV} {r y : AV} {H1 : List Blk} (h : arun P C k f as [] = some (r, H1)) (hf : freshR H1 r = true) (hr : rb H1 depth r = some y) : val P C k f as = some y := by
  unfold val
  rw [h]
  simp only [hf, if_true, hr]
theorem valD_of {C : Cfg} {f : FuncId} {as : List AV} {r y : AV} {H1 : List Blk} (h : arun P C k f as [] = some (r, H1)) (hr : rb H1 depth r = some y) : valD P C k f as = some y := by
  unfold valD
  rw [h]
  exact hr
theorem callR_3 {C : Cfg} {strict : Bool} {f : FuncId} {caps args : List AV} (hm : C.mode f = 3) (hb : noExt P f = true) : callR P (acall C.mode strict (arun P C k)) H (.fn f caps) args = ((amap (rb H depth) (args ++ caps)).bind (val P C k f)).map fun y => (y, H) := by
  simp only [callR, acall, hm, aext_none hb, vcall]
  cases h : amap (rb H depth) (args ++ caps) with
  | none => rfl
  | some as =>
    simp only [Option.bind_some, val]
    cases h2 : arun P C k f as [] with
    | none => rfl
    | some p =>
      obtain ⟨r, H1⟩ := p
      simp only [Bool.not_true, Bool.false_or]
      by_cases h3 : freshR H1 r = true
      · simp only [h3, if_true]
        cases rb H1 depth r <;> rfl
      · simp only [h3]
        rfl
theorem callR_1 {C : Cfg} {strict : Bool} {f : FuncId} {caps args : List AV} (hm : C.mode f = 1) (hb : noExt P f = true) : callR P (acall C.mode strict (arun P C k)) H (.fn f caps) args = if (args ++ caps).all (pv depth) = true then ((amap (rb H depth) (args ++ caps)).bind (valD P C k f)).map (fun y => (y, H)) else none := by
  by_cases hpv : (args ++ caps).all (pv depth) = true
  · simp only [callR, acall, hm, aext_none hb, vcall, hpv, if_true]
    cases h : amap (rb H depth) (args ++ caps) with
    | none => rfl
    | some as =>
      simp only [Option.bind_some, valD]
      cases h2 : arun P C k f as [] with
      | none => rfl
      | some p =>
        obtain ⟨r, H1⟩ := p
        simp only [Bool.not_false, Bool.true_or, if_true]
        cases rb H1 depth r <;> rfl
  · simp only [callR, acall, hm, aext_none hb, hpv]
    rfl
theorem callR_0 {C : Cfg} {strict : Bool} {f : FuncId} {caps args : List AV} (hm : C.mode f = 0) (hb : noExt P f = true) : callR P (acall C.mode strict (arun P C k)) H (.fn f caps) args = arun P C k f (args ++ caps) H := by
  simp only [callR, acall, hm, aext_none hb]
  cases arun P C k f (args ++ caps) H <;> rfl
def aSliceS (P : Program) (H : List Blk) (ρ : Operand → AV) (o : Oper) (t : TypeId) (u a b : AV) : Option Res := match u with
  | .sc (.string s) => match toV a, toV b with
    | some a', some b' => (pOut P (Instr.sliceAt t (.string s) (some a') (some b') none)).map .val
    | _, _ => none
  | _ => aop P H ρ o
theorem aop_sliceS {t : TypeId} {x i h : Operand} : aop P H ρ ⟨d, .slice t x (some i) (some h) none, ty, pos, af, g⟩ = aSliceS P H ρ ⟨d, .slice t x (some i) (some h) none, ty, pos, af, g⟩ t (ρ x) (ρ i) (ρ h) := by
  unfold aSliceS
  split
  · rename_i s hs
    have h0 : toV (ρ x) = some (.string s) := by rw [hs]; rfl
    simp only [aop, hs]
    cases h1 : toV (ρ i) with
    | none => rw [sop_no (by simp [Op.operands, h1])]; rfl
    | some a' => cases h2 : toV (ρ h) with
      | none => rw [sop_no (by simp [Op.operands, h2])]; rfl
      | some b' => rw [sop_v (s := Instr.sliceAt t (.string s) (some a') (some b') none) (by simp [Op.operands, h0, h1, h2]) rfl (by simp [execOp, h0, h1, h2])]
  · rfl
theorem aSliceS_at {o : Oper} {t : TypeId} {s : ByteArray} {k k' : IntKind} {m n : Nat} (ht : P.underlying t = some .string) (h1 : m ≤ n) (h2 : n ≤ s.size) : aSliceS P H ρ o t (.sc (.string s)) (.sc (.int k m)) (.sc (.int k' n)) = some (.val (.sc (.string (s.extract m n)))) := by
  have e1 : (n : Int) ≤ s.size := by omega
  have e2 : (m : Int) ≤ n := by omega
  simp [aSliceS, toV, pOut, Instr.sliceAt, Instr.slice, Instr.sliceBounds, Instr.sliceBound, asIntOf, pureRun_bind, pureRun_under ht, pureRun_pure, ofV, e1, e2, h1, h2]
theorem extract_one {s : ByteArray} {j : Nat} (h : j < s.size) (c : UInt8) : (s.extract j (j + 1) = ⟨#[c]⟩) = (((byteAt s j).toNat : Int) = c.toNat) := by
  have h1 : j < s.data.toList.length := by simpa using h
  have h2 : byteAt s j = s.data.toList[j] := by unfold byteAt; rw [List.getD_eq_getElem?_getD, List.getElem?_eq_getElem h1]; rfl
  have h3 : (s.extract j (j + 1)).data.toList = [s.data.toList[j]] := by
    rw [ByteArray.data_extract, Array.toList_extract]
    simp [List.extract_eq_drop_take, List.drop_eq_getElem_cons h1]
  apply propext
  constructor
  · intro e
    rw [e] at h3
    simp only [List.cons.injEq, and_true] at h3
    rw [h2, ← h3]
  · intro e
    apply ByteArray.ext
    apply Array.toList_inj.1
    rw [h3, ← h2]
    simp only [List.cons.injEq, and_true]
    exact UInt8.toNat_inj.1 (by omega)
end
end Go.Proofs.YtpgipdajinkdgaaGreatA
