/- A part of the proof of MagicAsks: functions of the program, run by the evaluator. -/

/- Running by hand: a loop by its last round; the elements of a row that has been built up. -/
import Derived.Test.YtpgipdajinkdgaaGreatAvX
namespace Go.Proofs.YtpgipdajinkdgaaGreatA
open Go Go.RowKit
set_option linter.all false
set_option linter.unusedSectionVars false
set_option linter.constructorNameAsVariable false
set_option linter.unusedVariables false
set_option linter.unusedSimpArgs false
section
variable {P : Program} {call callD : Fun} {jump : Code → Code → St → Option (AX × St)} {pure_ : FuncId → Bool} {dyn : Nat → Bool} {keep : Nat → Option (List Nat)} {n k K : Nat} {H : List Blk}
theorem loop_last {b : Code} (I R : Nat → St → Prop) (m : Nat) : ∀ (d i k : Nat) (s0 : St), i + d = m → d < k → I i (prn keep b s0) →
    (∀ j, j ≤ m → ∀ s, I j s → (j < m ∧ ∃ s1, acode P call callD jump pure_ dyn keep n K b s = some (.normal, s1) ∧ I (j + 1) (prn keep b s1)) ∨ (R j s ∧ ends (acode P call callD jump pure_ dyn keep n K b s) = true)) →
    ∃ j s, j ≤ m ∧ I j s ∧ R j s ∧ loopN (fun s => acode P call callD jump pure_ dyn keep n K b (prn keep b s)) k s0 = acode P call callD jump pure_ dyn keep n K b s := by
  intro d
  induction d with
  | zero =>
    intro i k s0 hi hk h0 hs
    obtain ⟨k, rfl⟩ : ∃ j, k = j + 1 := ⟨k - 1, by omega⟩
    rcases hs i (by omega) _ h0 with ⟨h1, _⟩ | ⟨h1, h2⟩
    · omega
    · refine ⟨i, _, by omega, h0, h1, ?_⟩
      simp only [loopN]
      cases h : acode P call callD jump pure_ dyn keep n K b (prn keep b s0) with
      | none => rfl
      | some p =>
        obtain ⟨x, s'⟩ := p
        rw [h] at h2
        cases x <;> first | rfl | (cases h2; done)
  | succ d ih =>
    intro i k s0 hi hk h0 hs
    obtain ⟨k, rfl⟩ : ∃ j, k = j + 1 := ⟨k - 1, by omega⟩
    rcases hs i (by omega) _ h0 with ⟨h1, s1, e1, h2⟩ | ⟨h1, h2⟩
    · obtain ⟨j, s, q1, q2, q3, q4⟩ := ih (i + 1) k s1 (by omega) (by omega) h2 hs
      refine ⟨j, s, q1, q2, q3, ?_⟩
      simp only [loopN]
      rw [e1]
      exact q4
    · refine ⟨i, _, by omega, h0, h1, ?_⟩
      simp only [loopN]
      cases h : acode P call callD jump pure_ dyn keep n K b (prn keep b s0) with
      | none => rfl
      | some p =>
        obtain ⟨x, s'⟩ := p
        rw [h] at h2
        cases x <;> first | rfl | (cases h2; done)
theorem aloop_last {b : Code} {s0 : St} {A : Option (AX × St)} (hA : aloop P call callD jump pure_ dyn keep n k b s0 = A) (L : List Nat) (I R : Nat → St → Prop) (m : Nat) (hk : m < k) (hL : (firstId b).bind keep = some L) (h0 : I 0 (pr L s0))
    (hs : ∀ j, j ≤ m → ∀ s, I j s → (j < m ∧ ∃ s1, aft L (acode P call callD jump pure_ dyn keep n k b s) = some (.normal, s1) ∧ I (j + 1) s1) ∨ (R j s ∧ ends (acode P call callD jump pure_ dyn keep n k b s) = true)) :
    ∃ j s, j ≤ m ∧ I j s ∧ R j s ∧ A = acode P call callD jump pure_ dyn keep n k b s := by
  have hp : prn keep b = pr L := by
    funext s
    unfold prn pr
    rw [hL]
    rfl
  subst hA
  exact loop_last I R m m 0 k s0 (by omega) hk (by rw [hp]; exact h0) (fun j hj s hI => by
    rcases hs j hj s hI with ⟨h1, s1, e1, h2⟩ | h
    · obtain ⟨⟨x2, s2⟩, e2, e3⟩ := Option.map_eq_some_iff.1 e1
      simp only [Prod.mk.injEq] at e3
      obtain ⟨e4, e5⟩ := e3
      subst e4
      exact .inl ⟨h1, s2, e2, by rw [hp, e5]; exact h2⟩
    · exact .inr h)
theorem aloop_nat {b : Code} {s0 : St} {A : Option (AX × St)} (hA : aloop P call callD jump pure_ dyn keep n k b s0 = A) (L : List Nat) (S : Nat → St) (m : Nat) (q : Nat → Bool) (hk : m < k) (hL : (firstId b).bind keep = some L) (h0 : pr L s0 = S 0)
    (hs : ∀ j, j < m → q j = false → aft L (acode P call callD jump pure_ dyn keep n k b (S j)) = some (.normal, S (j + 1)))
    (hb : ∀ j, j < m → q j = true → ends (acode P call callD jump pure_ dyn keep n k b (S j)) = true)
    (he : ends (acode P call callD jump pure_ dyn keep n k b (S m)) = true) :
    ((∀ j, j < m → q j = false) ∧ A = acode P call callD jump pure_ dyn keep n k b (S m)) ∨ ∃ j, j < m ∧ q j = true ∧ (∀ i, i < j → q i = false) ∧ A = acode P call callD jump pure_ dyn keep n k b (S j) := by
  obtain ⟨j, s, hj, ⟨rfl, hI⟩, hR, rfl⟩ := aloop_last hA L (fun j s => s = S j ∧ ∀ i, i < j → q i = false) (fun j _ => j < m → q j = true) m hk hL ⟨h0, fun i hi => by omega⟩ (fun j hj s hI => by
    obtain ⟨rfl, hI⟩ := hI
    by_cases h : j < m
    · cases hq : q j with
      | false =>
        refine .inl ⟨h, _, hs j h hq, rfl, fun i hi => ?_⟩
        by_cases e : i = j
        · subst e; exact hq
        · exact hI i (by omega)
      | true => exact .inr ⟨fun _ => rfl, hb j h hq⟩
    · obtain rfl : j = m := by omega
      exact .inr ⟨fun h' => absurd h' h, he⟩)
  by_cases h : j < m
  · exact .inr ⟨j, h, hR h, hI, rfl⟩
  · obtain rfl : j = m := by omega
    exact .inl ⟨hI, rfl⟩
theorem aloop_list {α : Type} {b : Code} {s0 : St} {A : Option (AX × St)} (hA : aloop P call callD jump pure_ dyn keep n k b s0 = A) (L : List Nat) (S : Nat → St) (l : List α) (q : α → Bool) (hk : l.length < k) (hL : (firstId b).bind keep = some L) (h0 : pr L s0 = S 0)
    (hs : ∀ j x, j < l.length → l[j]? = some x → q x = false → aft L (acode P call callD jump pure_ dyn keep n k b (S j)) = some (.normal, S (j + 1)))
    (hb : ∀ j x, j < l.length → l[j]? = some x → q x = true → ends (acode P call callD jump pure_ dyn keep n k b (S j)) = true)
    (he : ends (acode P call callD jump pure_ dyn keep n k b (S l.length)) = true) :
    (l.findIdx? q = none ∧ A = acode P call callD jump pure_ dyn keep n k b (S l.length)) ∨ ∃ j x, j < l.length ∧ l[j]? = some x ∧ q x = true ∧ l.findIdx? q = some j ∧ A = acode P call callD jump pure_ dyn keep n k b (S j) := by
  have hx : ∀ j (h : j < l.length), l[j]? = some l[j] := fun j h => List.getElem?_eq_getElem h
  rcases aloop_nat hA L S l.length (fun j => (l[j]?).any q) hk hL h0 (fun j h hq => hs j l[j] h (hx j h) (by rw [hx j h] at hq; simpa using hq)) (fun j h hq => hb j l[j] h (hx j h) (by rw [hx j h] at hq; simpa using hq)) he with ⟨h1, h2⟩ | ⟨j, h1, h2, h3, h4⟩
  · refine .inl ⟨?_, h2⟩
    rw [List.findIdx?_eq_none_iff]
    intro x hm
    obtain ⟨j, hj, rfl⟩ := List.mem_iff_getElem.1 hm
    have := h1 j hj
    rw [hx j hj] at this
    simpa using this
  · rw [hx j h1] at h2
    refine .inr ⟨j, l[j], h1, hx j h1, by simpa using h2, ?_, h4⟩
    rw [List.findIdx?_eq_some_iff_getElem]
    refine ⟨h1, by simpa using h2, fun i hi => ?_⟩
    have := h3 i hi
    rw [hx i (by omega)] at this
    simpa using this
theorem any_find {α : Type} {l : List α} {q : α → Bool} : l.any q = (l.findIdx? q).isSome := by
  rw [Bool.eq_iff_iff, List.any_eq_true, List.findIdx?_isSome, List.any_eq_true]
theorem flat_at {sz : Nat} : ∀ {rows : List (List AV)} {j : Nat} {r : List AV}, (∀ r ∈ rows, r.length = sz) → rows[j]? = some r → (rows.flatten.drop (j * sz)).take sz = r
  | [], _, _, _, h => by simp at h
  | a :: rows, 0, r, hr, h => by
    simp only [List.getElem?_cons_zero, Option.some.injEq] at h
    subst h
    have := hr a (by simp)
    simp [List.take_append_of_le_length, this]
  | a :: rows, j + 1, r, hr, h => by
    simp only [List.getElem?_cons_succ] at h
    have ha := hr a (by simp)
    have := flat_at (fun x hx => hr x (by simp [hx])) h
    rw [List.flatten_cons, List.drop_append, ha, List.drop_eq_nil_of_le (by rw [ha, Nat.add_mul]; omega), List.nil_append, show (j + 1) * sz - sz = j * sz by rw [Nat.add_mul]; omega]
    exact this
theorem aLen_nil {t e : TypeId} (hu : P.underlying t = some (.slice e)) : aLen P H t (.sc (.slice none 0 0)) = some (.val (.sc (.int .i64 0))) := by
  simp only [aLen, alen, hu, toV]
  simp [pOut, Builtin.len_, pureRun_bind, pureRun_under hu, pureRun_pure, ofV, goInt]
def accV (b sz : Nat) (rows : List (List AV)) : AV := if rows = [] then .sc (.slice none 0 0) else .own b 0 rows.length sz (rows.length - 1)
def accB (e : TypeId) (sz : Nat) (rows : List (List AV)) : List Blk := if rows = [] then [] else [⟨e, sz, rows.length - 1, true, rows.flatten, .cells⟩]
theorem accV_nil {b sz : Nat} : accV b sz [] = .sc (.slice none 0 0) := rfl
theorem accB_nil {e : TypeId} {sz : Nat} : accB e sz [] = [] := rfl
theorem acc_out {e : TypeId} {sz : Nat} {rows : List (List AV)} : OutAt e sz (H ++ accB e sz rows) (accV H.length sz rows) rows := by
  by_cases h : rows = []
  · subst h; exact .inl ⟨rfl, rfl⟩
  · refine .inr ⟨h, H.length, rows.length - 1, by unfold accV; rw [if_neg h], ?_⟩
    unfold accB
    rw [if_neg h]
    simp
theorem acc_out0 {e : TypeId} {sz : Nat} {rows : List (List AV)} : OutAt e sz (accB e sz rows) (accV 0 sz rows) rows := acc_out (H := [])
def rowOk (P : Program) (t e : TypeId) (sz bytes : Nat) : Bool := match P.underlying t, P.info? e with
  | some (.slice e'), some i => match i.zero with
    | some zv => Nat.beq e' e && i.size == sz && i.bytes == bytes && decide (0 < sz) && zv.cells.size == sz && zv.cells.toList.all Value.oneCell' && decide (sz ≤ 16777216)
    | none => false
  | _, _ => false
theorem rowOk_at {t e : TypeId} {sz bytes : Nat} (h : rowOk P t e sz bytes = true) : ∃ i zv, P.underlying t = some (.slice e) ∧ P.info? e = some i ∧ i.zero = some zv ∧ i.size = sz ∧ i.bytes = bytes ∧ 0 < sz ∧ zv.cells.size = sz ∧ zv.cells.toList.all Value.oneCell' = true ∧ sz ≤ 16777216 := by
  unfold rowOk at h
  split at h <;> try (cases h; done)
  rename_i e' i hu hi
  split at h <;> try (cases h; done)
  rename_i zv hz
  simp only [Bool.and_eq_true, beq_iff_eq, decide_eq_true_eq] at h
  obtain ⟨⟨⟨⟨⟨⟨h1, h2⟩, h3⟩, h4⟩, h5⟩, h6⟩, h7⟩ := h
  cases Nat.eq_of_beq_eq_true h1
  exact ⟨i, zv, hu, hi, hz, h2, h3, h4, h5, h6, h7⟩
theorem elems_mkL {sz : Nat} {rows : List (List AV)} : elems H (mkL sz rows) sz = some (rows.flatten, rows.length) := by
  cases rows with
  | nil =>
    simp only [mkL, elems]
    by_cases h : 0 = sz
    · simp [h]
    · simp [h]
  | cons r rs => simp [mkL, elems]
theorem acc1 {t e : TypeId} {sz bytes : Nat} {rows : List (List AV)} {r : List AV} (ht : rowOk P t e sz bytes = true) (hr : ∀ r ∈ rows, r.length = sz) (hl : r.length = sz) (hone : r.all one = true) (hb : (rows.length + 1) * bytes ≤ 140737488355328) (hm : rows.length + 1 ≤ maxLen) :
    outH (H ++ accB e sz rows) (aappend P (H ++ accB e sz rows) t (accV H.length sz rows) (mkL sz [r])) = some (accV H.length sz (rows ++ [r]), H ++ accB e sz (rows ++ [r])) := by
  obtain ⟨i, zv, hu, hi, hz, rfl, rfl, hpos, hzs, _, _⟩ := rowOk_at ht
  have hcond : (decide (0 < i.size) && zv.cells.size == i.size) = true := by simp [hpos, hzs]
  have hfl := flat_len' hr
  by_cases h : rows = []
  · subst h
    simp only [accV_nil, accB_nil, aappend, hu, hi, hz, hcond, if_true, elems_mkL, List.append_nil, List.flatten_cons, List.flatten_nil, List.length_cons, List.length_nil, hone]
    rw [if_pos (by simp only [List.length_nil] at hb hm; simp; omega)]
    simp [outH, accV, accB]
  · have hk : (H ++ accB e i.size rows)[H.length]? = some ⟨e, i.size, rows.length - 1, true, rows.flatten, .cells⟩ := by
      unfold accB; rw [if_neg h]; simp
    have hV : accV H.length i.size rows = .own H.length 0 rows.length i.size (rows.length - 1) := by unfold accV; rw [if_neg h]
    have hne : 0 < rows.length := List.length_pos_iff.2 h
    rw [hV]
    simp only [aappend, hu, hi, hz, hcond, if_true, elems_mkL, List.flatten_cons, List.flatten_nil, List.append_nil, List.length_cons, List.length_nil, hone]
    rw [blkAt_some' hk rfl rfl]
    simp only [hfl, Nat.le_refl, decide_true, beq_self_eq_true, Bool.and_true, Bool.true_and]
    rw [if_pos (by simp; omega)]
    simp only [Nat.zero_add, Nat.reduceEqDiff, if_false, outH, reduceCtorEq]
    have hne2 : ¬ rows ++ [r] = [] := by simp
    simp only [accV, accB, if_neg h, if_neg hne2]
    rw [← hfl, List.take_length]
    simp
    omega
theorem acc1_0 {t e : TypeId} {sz bytes : Nat} {rows : List (List AV)} {r : List AV} (ht : rowOk P t e sz bytes = true) (hr : ∀ r ∈ rows, r.length = sz) (hl : r.length = sz) (hone : r.all one = true) (hb : (rows.length + 1) * bytes ≤ 140737488355328) (hm : rows.length + 1 ≤ maxLen) :
    outH (accB e sz rows) (aappend P (accB e sz rows) t (accV 0 sz rows) (mkL sz [r])) = some (accV 0 sz (rows ++ [r]), accB e sz (rows ++ [r])) := acc1 (H := []) ht hr hl hone hb hm
theorem acc_more {t e : TypeId} {sz bytes : Nat} {v : AV} {rows more : List (List AV)} (ht : rowOk P t e sz bytes = true) (h : OutAt e sz H v rows) (hr : ∀ r ∈ rows, r.length = sz) (hm : ∀ r ∈ more, r.length = sz ∧ r.all one = true) (hb : (rows.length + more.length) * bytes ≤ 140737488355328) (hx : rows.length + more.length ≤ maxLen) :
    ∃ v' H', outH H (aappend P H t v (mkL sz more)) = some (v', H') ∧ OutAt e sz H' v' (rows ++ more) ∧ ∀ b blk, (∀ o l s ver, v ≠ .own b o l s ver) → H[b]? = some blk → H'[b]? = some blk := by
  obtain ⟨i, zv, hu, hi, hz, rfl, rfl, hpos, hzs, _, _⟩ := rowOk_at ht
  have hcond : (decide (0 < i.size) && zv.cells.size == i.size) = true := by simp [hpos, hzs]
  have hone : more.flatten.all one = true := by
    rw [List.all_flatten, List.all_eq_true]
    exact fun r hr => (hm r hr).2
  rcases h with ⟨rfl, rfl⟩ | ⟨hne, b, ver, rfl, hk⟩
  · simp only [aappend, hu, hi, hz, hcond, if_true, elems_mkL, hone]
    rw [if_pos (by simp only [List.length_nil, Nat.zero_add] at hb hx; simp; omega)]
    by_cases hem : more = []
    · subst hem
      exact ⟨_, _, rfl, .inl ⟨rfl, rfl⟩, fun _ _ _ h => h⟩
    · rw [if_neg (by simpa using hem)]
      refine ⟨_, _, rfl, .inr ⟨by simpa using hem, H.length, 0, by simp, by simp⟩, fun b blk _ hb => ?_⟩
      rw [List.getElem?_append_left (by rcases Nat.lt_or_ge b H.length with h | h; exact h; rw [List.getElem?_eq_none h] at hb; cases hb)]
      exact hb
  · have hfl := flat_len' hr
    have hlt : b < H.length := by rcases Nat.lt_or_ge b H.length with h | h; exact h; rw [List.getElem?_eq_none h] at hk; cases hk
    simp only [aappend, hu, hi, hz, hcond, if_true, elems_mkL, hone]
    rw [blkAt_some' hk rfl rfl]
    simp only [hfl, Nat.le_refl, decide_true, beq_self_eq_true, Bool.and_true, Bool.true_and]
    rw [if_pos (by simp; omega)]
    by_cases hem : more = []
    · subst hem
      refine ⟨_, _, by simp only [List.length_nil, if_true]; rfl, .inr ⟨by simpa using hne, b, ver, by simp, by simpa using hk⟩, fun _ _ _ h => h⟩
    · rw [if_neg (by simpa using hem)]
      refine ⟨_, _, rfl, .inr ⟨by simp [hne], b, ver + 1, by simp, ?_⟩, fun b' blk hb' hb2 => ?_⟩
      · rw [List.getElem?_set_self hlt, ← hfl, List.take_length]
        simp
      · rw [List.getElem?_set_ne (fun e => hb' 0 rows.length i.size ver (by rw [e]))]
        exact hb2
def aBS1 (P : Program) (H : List Blk) (t : TypeId) (u : AV) : Option Res :=
    match P.underlying t with
    | some (.slice e) =>
      match P.info? e with
      | some i => match i.zero with
        | some zv =>
          if 0 < i.size && zv.cells.size == i.size && zv.cells.toList.all Value.oneCell' && 1 * i.size ≤ 16777216 then
            match afill (fun j => some (j * i.size, i.size)) ((List.replicate 1 (zv.cells.toList.map AV.sc)).flatten) [(0, u)] with
            | some cs => if cs.all one then some (.new (if 1 = 0 then .z else .own H.length 0 1 i.size 0) ⟨e, i.size, 0, true, cs, .cells⟩) else none
            | none => none
          else none
        | none => none
      | none => none
    | _ => none
theorem aop_bs1 {ρ : Operand → AV} {d : Option Tmp} {ty t : TypeId} {x : Operand} {pos : String} {af : Array Edge} {g : Option (Nat × Bool)} : aop P H ρ ⟨d, .buildSlice t 1 #[(0, x)], ty, pos, af, g⟩ = aBS1 P H t (ρ x) := rfl
theorem bs1_eq {t e : TypeId} {sz bytes : Nat} {x : AV} (ht : rowOk P t e sz bytes = true) (hx : solid x = true) (hl : (acells x).length = sz) (hone : (acells x).all one = true) : aBS1 P H t x = some (.new (.own H.length 0 1 sz 0) ⟨e, sz, 0, true, acells x, .cells⟩) := by
  obtain ⟨i, zv, hu, hi, hz, rfl, rfl, hpos, hzs, hz1, hbig⟩ := rowOk_at ht
  exact build_one (P := P) (H := H) (ρ := fun _ => x) (d := none) (ty := 0) (pos := "") (af := #[]) (g := none) (x := .tmp 0) hu hi hz hpos hzs hz1 hbig hx rfl hl hone
def bsElse (P : Program) (H : List Blk) (t : TypeId) (u : AV) : Option Res := aBS1 P H t u
theorem bs1_if {t e : TypeId} {sz bytes : Nat} {x : AV} (ht : rowOk P t e sz bytes = true) : aBS1 P H t x = if (solid x && decide ((acells x).length = sz) && (acells x).all one) = true then some (.new (.own H.length 0 1 sz 0) ⟨e, sz, 0, true, acells x, .cells⟩) else bsElse P H t x := by
  split
  · rename_i h
    simp only [Bool.and_eq_true] at h
    exact bs1_eq ht h.1.1 (of_decide_eq_true h.1.2) h.2
  · rfl
theorem val_acc {C : Cfg} {f : FuncId} {as : List AV} {e : TypeId} {sz : Nat} {v : AV} {rows : List (List AV)} {H1 : List Blk} (h : arun P C k f as [] = some (v, H1)) (ho : OutAt e sz H1 v rows) (hr : ∀ r ∈ rows, r.length = sz) (hs : ∀ r ∈ rows, ∀ x ∈ r, Stays x ∧ ∃ u, x = .sc u) : val P C k f as = some (mkL sz rows) :=
  val_of h (fresh_out ho hr (fun r hr x hx => (hs r hr x hx).2)) (rb_out (k := 38) ho hr (fun r hr x hx => (hs r hr x hx).1))
theorem noExt_of {f : FuncId} {fn : Func} (h : P.funcs[f]? = some fn) (hb : fn.body.isSome = true) : noExt P f = true := by
  unfold noExt
  rw [h]
  exact hb
theorem pv_sc {j : Nat} {v : Value} : pv (j + 1) (.sc v) = true := rfl
theorem pv_lst {j sz : Nat} {rows : List (List AV)} : pv (j + 1) (.lst sz rows) = true := rfl
theorem pv_ro {j : Nat} {cs : List AV} : pv (j + 1) (.ro cs) = true := rfl
theorem pv_z {j : Nat} : pv (j + 1) .z = true := rfl
theorem pv_agg {j : Nat} {cs : List AV} : pv (j + 1) (.agg cs) = cs.all (pv j) := rfl
theorem pv_fn {j : Nat} {f : FuncId} {cs : List AV} : pv (j + 1) (.fn f cs) = cs.all (pv j) := rfl
theorem some_map {α β : Type} {f : α → β} {x : α} : (some x).map f = some (f x) := rfl
theorem wraps {n : Nat} (h : n ≤ 1000000) : ∀ j : Nat, j < n → IntKind.i64.wrap ((j : Int) + 1) = ((j + 1 : Nat) : Int) := fun j hj => wrap_succ (by omega)
theorem ieq (x y : Nat) : ((x : Int) = y) = (x = y) := propext Int.ofNat_inj
theorem isAl_move (x : Operand) : isAlloc (.move x) = false := rfl
theorem isAl_assign (x : Operand) : isAlloc (.assign x) = false := rfl
theorem isAl_pick (x y w : Operand) : isAlloc (.pick x y w) = false := rfl
theorem isAl_box (x : TypeId) (y : Operand) : isAlloc (.box x y) = false := rfl
theorem isAl_build (x : TypeId) (y : Array (Nat × Operand)) : isAlloc (.build x y) = false := rfl
theorem isAl_buildSlice (x : TypeId) (y : Nat) (w : Array (Nat × Operand)) : isAlloc (.buildSlice x y w) = false := rfl
theorem isAl_insert (x : TypeId) (y w u : Operand) : isAlloc (.insert x y w u) = false := rfl
theorem isAl_load (x : TypeId) (y : Operand) : isAlloc (.load x y) = false := rfl
theorem isAl_store (x : TypeId) (y w : Operand) : isAlloc (.store x y w) = false := rfl
theorem isAl_nilCheck (x : Operand) : isAlloc (.nilCheck x) = false := rfl
theorem isAl_binOp (x : BinOp) (y : TypeId) (w u : Operand) (v : TypeId) : isAlloc (.binOp x y w u v) = false := rfl
theorem isAl_unOp (x : UnOp) (y : TypeId) (w : Operand) : isAlloc (.unOp x y w) = false := rfl
theorem isAl_convert (x y : TypeId) (w : Operand) : isAlloc (.convert x y w) = false := rfl
theorem isAl_makeInterface (x : TypeId) (y : Operand) : isAlloc (.makeInterface x y) = false := rfl
theorem isAl_makeFunc (x : Fn) (y w : Array Operand) : isAlloc (.makeFunc x y w) = false := rfl
theorem isAl_makeMap (x : TypeId) (y : Option Operand) : isAlloc (.makeMap x y) = false := rfl
theorem isAl_makeSlice (x : TypeId) (y w : Operand) : isAlloc (.makeSlice x y w) = false := rfl
theorem isAl_slice (x : TypeId) (y : Operand) (w u v : Option Operand) : isAlloc (.slice x y w u v) = false := rfl
theorem isAl_fieldAddr (x : TypeId) (y : Operand) (w : Nat) : isAlloc (.fieldAddr x y w) = false := rfl
theorem isAl_field (x : TypeId) (y : Operand) (w : Nat) : isAlloc (.field x y w) = false := rfl
theorem isAl_indexAddr (x : TypeId) (y w : Operand) : isAlloc (.indexAddr x y w) = false := rfl
theorem isAl_index (x : TypeId) (y w : Operand) : isAlloc (.index x y w) = false := rfl
theorem isAl_lookup (x : TypeId) (y w : Operand) (u : Bool) : isAlloc (.lookup x y w u) = false := rfl
theorem isAl_mapUpdate (x : TypeId) (y w u : Operand) : isAlloc (.mapUpdate x y w u) = false := rfl
theorem isAl_mapEntry (x : TypeId) (y w : Operand) : isAlloc (.mapEntry x y w) = false := rfl
theorem isAl_entryStore (x : TypeId) (y w u : Operand) : isAlloc (.entryStore x y w u) = false := rfl
theorem isAl_extract (x : Operand) (y : Nat) : isAlloc (.extract x y) = false := rfl
theorem isAl_call (x : Call) : isAlloc (.call x) = false := rfl
theorem isAl_typeAssert (x : Operand) (y w : TypeId) (u : Bool) : isAlloc (.typeAssert x y w u) = false := rfl
theorem isAl_range (x : TypeId) (y : Operand) : isAlloc (.range x y) = false := rfl
theorem isAl_next (x : Operand) (y : Bool) : isAlloc (.next x y) = false := rfl
theorem isAl_entry (x : Operand) : isAlloc (.entry x) = false := rfl
theorem isAl_panic (x : Operand) : isAlloc (.panic x) = false := rfl
theorem isAl_alloc (x : TypeId) : isAlloc (.alloc x) = true := rfl
theorem isVB_move {frz : List Nat} {t : Tmp} {e ty2 : TypeId} {d2 : Option Tmp} {pos2 : String} {af2 : Array Edge} {g2 : Option (Nat × Bool)} (x : Operand) : isVarB frz t e ⟨d2, .move x, ty2, pos2, af2, g2⟩ = false := rfl
theorem isVB_assign {frz : List Nat} {t : Tmp} {e ty2 : TypeId} {d2 : Option Tmp} {pos2 : String} {af2 : Array Edge} {g2 : Option (Nat × Bool)} (x : Operand) : isVarB frz t e ⟨d2, .assign x, ty2, pos2, af2, g2⟩ = false := rfl
theorem isVB_pick {frz : List Nat} {t : Tmp} {e ty2 : TypeId} {d2 : Option Tmp} {pos2 : String} {af2 : Array Edge} {g2 : Option (Nat × Bool)} (x y w : Operand) : isVarB frz t e ⟨d2, .pick x y w, ty2, pos2, af2, g2⟩ = false := rfl
theorem isVB_box {frz : List Nat} {t : Tmp} {e ty2 : TypeId} {d2 : Option Tmp} {pos2 : String} {af2 : Array Edge} {g2 : Option (Nat × Bool)} (x : TypeId) (y : Operand) : isVarB frz t e ⟨d2, .box x y, ty2, pos2, af2, g2⟩ = false := rfl
theorem isVB_build {frz : List Nat} {t : Tmp} {e ty2 : TypeId} {d2 : Option Tmp} {pos2 : String} {af2 : Array Edge} {g2 : Option (Nat × Bool)} (x : TypeId) (y : Array (Nat × Operand)) : isVarB frz t e ⟨d2, .build x y, ty2, pos2, af2, g2⟩ = false := rfl
theorem isVB_buildSlice {frz : List Nat} {t : Tmp} {e ty2 : TypeId} {d2 : Option Tmp} {pos2 : String} {af2 : Array Edge} {g2 : Option (Nat × Bool)} (x : TypeId) (y : Nat) (w : Array (Nat × Operand)) : isVarB frz t e ⟨d2, .buildSlice x y w, ty2, pos2, af2, g2⟩ = false := rfl
theorem isVB_insert {frz : List Nat} {t : Tmp} {e ty2 : TypeId} {d2 : Option Tmp} {pos2 : String} {af2 : Array Edge} {g2 : Option (Nat × Bool)} (x : TypeId) (y w u : Operand) : isVarB frz t e ⟨d2, .insert x y w u, ty2, pos2, af2, g2⟩ = false := rfl
theorem isVB_load {frz : List Nat} {t : Tmp} {e ty2 : TypeId} {d2 : Option Tmp} {pos2 : String} {af2 : Array Edge} {g2 : Option (Nat × Bool)} (x : TypeId) (y : Operand) : isVarB frz t e ⟨d2, .load x y, ty2, pos2, af2, g2⟩ = false := rfl
theorem isVB_nilCheck {frz : List Nat} {t : Tmp} {e ty2 : TypeId} {d2 : Option Tmp} {pos2 : String} {af2 : Array Edge} {g2 : Option (Nat × Bool)} (x : Operand) : isVarB frz t e ⟨d2, .nilCheck x, ty2, pos2, af2, g2⟩ = false := rfl
theorem isVB_binOp {frz : List Nat} {t : Tmp} {e ty2 : TypeId} {d2 : Option Tmp} {pos2 : String} {af2 : Array Edge} {g2 : Option (Nat × Bool)} (x : BinOp) (y : TypeId) (w u : Operand) (v : TypeId) : isVarB frz t e ⟨d2, .binOp x y w u v, ty2, pos2, af2, g2⟩ = false := rfl
theorem isVB_unOp {frz : List Nat} {t : Tmp} {e ty2 : TypeId} {d2 : Option Tmp} {pos2 : String} {af2 : Array Edge} {g2 : Option (Nat × Bool)} (x : UnOp) (y : TypeId) (w : Operand) : isVarB frz t e ⟨d2, .unOp x y w, ty2, pos2, af2, g2⟩ = false := rfl
theorem isVB_convert {frz : List Nat} {t : Tmp} {e ty2 : TypeId} {d2 : Option Tmp} {pos2 : String} {af2 : Array Edge} {g2 : Option (Nat × Bool)} (x y : TypeId) (w : Operand) : isVarB frz t e ⟨d2, .convert x y w, ty2, pos2, af2, g2⟩ = false := rfl
theorem isVB_makeInterface {frz : List Nat} {t : Tmp} {e ty2 : TypeId} {d2 : Option Tmp} {pos2 : String} {af2 : Array Edge} {g2 : Option (Nat × Bool)} (x : TypeId) (y : Operand) : isVarB frz t e ⟨d2, .makeInterface x y, ty2, pos2, af2, g2⟩ = false := rfl
theorem isVB_makeFunc {frz : List Nat} {t : Tmp} {e ty2 : TypeId} {d2 : Option Tmp} {pos2 : String} {af2 : Array Edge} {g2 : Option (Nat × Bool)} (x : Fn) (y w : Array Operand) : isVarB frz t e ⟨d2, .makeFunc x y w, ty2, pos2, af2, g2⟩ = false := rfl
theorem isVB_makeMap {frz : List Nat} {t : Tmp} {e ty2 : TypeId} {d2 : Option Tmp} {pos2 : String} {af2 : Array Edge} {g2 : Option (Nat × Bool)} (x : TypeId) (y : Option Operand) : isVarB frz t e ⟨d2, .makeMap x y, ty2, pos2, af2, g2⟩ = false := rfl
theorem isVB_makeSlice {frz : List Nat} {t : Tmp} {e ty2 : TypeId} {d2 : Option Tmp} {pos2 : String} {af2 : Array Edge} {g2 : Option (Nat × Bool)} (x : TypeId) (y w : Operand) : isVarB frz t e ⟨d2, .makeSlice x y w, ty2, pos2, af2, g2⟩ = false := rfl
theorem isVB_slice {frz : List Nat} {t : Tmp} {e ty2 : TypeId} {d2 : Option Tmp} {pos2 : String} {af2 : Array Edge} {g2 : Option (Nat × Bool)} (x : TypeId) (y : Operand) (w u v : Option Operand) : isVarB frz t e ⟨d2, .slice x y w u v, ty2, pos2, af2, g2⟩ = false := rfl
theorem isVB_fieldAddr {frz : List Nat} {t : Tmp} {e ty2 : TypeId} {d2 : Option Tmp} {pos2 : String} {af2 : Array Edge} {g2 : Option (Nat × Bool)} (x : TypeId) (y : Operand) (w : Nat) : isVarB frz t e ⟨d2, .fieldAddr x y w, ty2, pos2, af2, g2⟩ = false := rfl
theorem isVB_field {frz : List Nat} {t : Tmp} {e ty2 : TypeId} {d2 : Option Tmp} {pos2 : String} {af2 : Array Edge} {g2 : Option (Nat × Bool)} (x : TypeId) (y : Operand) (w : Nat) : isVarB frz t e ⟨d2, .field x y w, ty2, pos2, af2, g2⟩ = false := rfl
theorem isVB_indexAddr {frz : List Nat} {t : Tmp} {e ty2 : TypeId} {d2 : Option Tmp} {pos2 : String} {af2 : Array Edge} {g2 : Option (Nat × Bool)} (x : TypeId) (y w : Operand) : isVarB frz t e ⟨d2, .indexAddr x y w, ty2, pos2, af2, g2⟩ = false := rfl
theorem isVB_index {frz : List Nat} {t : Tmp} {e ty2 : TypeId} {d2 : Option Tmp} {pos2 : String} {af2 : Array Edge} {g2 : Option (Nat × Bool)} (x : TypeId) (y w : Operand) : isVarB frz t e ⟨d2, .index x y w, ty2, pos2, af2, g2⟩ = false := rfl
theorem isVB_lookup {frz : List Nat} {t : Tmp} {e ty2 : TypeId} {d2 : Option Tmp} {pos2 : String} {af2 : Array Edge} {g2 : Option (Nat × Bool)} (x : TypeId) (y w : Operand) (u : Bool) : isVarB frz t e ⟨d2, .lookup x y w u, ty2, pos2, af2, g2⟩ = false := rfl
theorem isVB_mapUpdate {frz : List Nat} {t : Tmp} {e ty2 : TypeId} {d2 : Option Tmp} {pos2 : String} {af2 : Array Edge} {g2 : Option (Nat × Bool)} (x : TypeId) (y w u : Operand) : isVarB frz t e ⟨d2, .mapUpdate x y w u, ty2, pos2, af2, g2⟩ = false := rfl
theorem isVB_mapEntry {frz : List Nat} {t : Tmp} {e ty2 : TypeId} {d2 : Option Tmp} {pos2 : String} {af2 : Array Edge} {g2 : Option (Nat × Bool)} (x : TypeId) (y w : Operand) : isVarB frz t e ⟨d2, .mapEntry x y w, ty2, pos2, af2, g2⟩ = false := rfl
theorem isVB_entryStore {frz : List Nat} {t : Tmp} {e ty2 : TypeId} {d2 : Option Tmp} {pos2 : String} {af2 : Array Edge} {g2 : Option (Nat × Bool)} (x : TypeId) (y w u : Operand) : isVarB frz t e ⟨d2, .entryStore x y w u, ty2, pos2, af2, g2⟩ = false := rfl
theorem isVB_extract {frz : List Nat} {t : Tmp} {e ty2 : TypeId} {d2 : Option Tmp} {pos2 : String} {af2 : Array Edge} {g2 : Option (Nat × Bool)} (x : Operand) (y : Nat) : isVarB frz t e ⟨d2, .extract x y, ty2, pos2, af2, g2⟩ = false := rfl
theorem isVB_call {frz : List Nat} {t : Tmp} {e ty2 : TypeId} {d2 : Option Tmp} {pos2 : String} {af2 : Array Edge} {g2 : Option (Nat × Bool)} (x : Call) : isVarB frz t e ⟨d2, .call x, ty2, pos2, af2, g2⟩ = false := rfl
theorem isVB_typeAssert {frz : List Nat} {t : Tmp} {e ty2 : TypeId} {d2 : Option Tmp} {pos2 : String} {af2 : Array Edge} {g2 : Option (Nat × Bool)} (x : Operand) (y w : TypeId) (u : Bool) : isVarB frz t e ⟨d2, .typeAssert x y w u, ty2, pos2, af2, g2⟩ = false := rfl
theorem isVB_range {frz : List Nat} {t : Tmp} {e ty2 : TypeId} {d2 : Option Tmp} {pos2 : String} {af2 : Array Edge} {g2 : Option (Nat × Bool)} (x : TypeId) (y : Operand) : isVarB frz t e ⟨d2, .range x y, ty2, pos2, af2, g2⟩ = false := rfl
theorem isVB_next {frz : List Nat} {t : Tmp} {e ty2 : TypeId} {d2 : Option Tmp} {pos2 : String} {af2 : Array Edge} {g2 : Option (Nat × Bool)} (x : Operand) (y : Bool) : isVarB frz t e ⟨d2, .next x y, ty2, pos2, af2, g2⟩ = false := rfl
theorem isVB_entry {frz : List Nat} {t : Tmp} {e ty2 : TypeId} {d2 : Option Tmp} {pos2 : String} {af2 : Array Edge} {g2 : Option (Nat × Bool)} (x : Operand) : isVarB frz t e ⟨d2, .entry x, ty2, pos2, af2, g2⟩ = false := rfl
theorem isVB_panic {frz : List Nat} {t : Tmp} {e ty2 : TypeId} {d2 : Option Tmp} {pos2 : String} {af2 : Array Edge} {g2 : Option (Nat × Bool)} (x : Operand) : isVarB frz t e ⟨d2, .panic x, ty2, pos2, af2, g2⟩ = false := rfl
theorem isVB_alloc {frz : List Nat} {t : Tmp} {e ty2 : TypeId} {d2 : Option Tmp} {pos2 : String} {af2 : Array Edge} {g2 : Option (Nat × Bool)} (x : TypeId) : isVarB frz t e ⟨d2, .alloc x, ty2, pos2, af2, g2⟩ = false := rfl
theorem isTmp_tmp (t u : Nat) : isTmp t (.tmp u) = decide (u = t) := by
  have h : ∀ a b : Nat, Nat.beq a b = decide (a = b) := fun a b => by rw [Bool.eq_iff_iff]; simp
  rw [← h]
  rfl
theorem isTmp_const (t : Nat) (v : Value) : isTmp t (.const v) = false := rfl
theorem isTmp_func (t f : Nat) : isTmp t (.func f) = false := rfl
theorem freeze_ptr {b sz ver : Nat} {e : TypeId} {g : Bool} {cs : List AV} : freeze (.ptr b 0 0) ⟨e, sz, ver, g, cs, .cells⟩ = if cs.all (pv depth) = true then some (.ro cs) else none := rfl
theorem freeze_own {b sz s ver len : Nat} {e : TypeId} {g : Bool} {cs : List AV} : freeze (.own b 0 len s 0) ⟨e, sz, ver, g, cs, .cells⟩ = if cs.all (pv depth) = true then (rdCells cs 0 (len * s)).map fun cs => mkL s (chunks s len cs) else none := by
  simp only [freeze]
  cases rdCells cs 0 (len * s) <;> rfl
theorem freeze_z {sz ver : Nat} {e : TypeId} {g : Bool} {cs : List AV} : freeze .z ⟨e, sz, ver, g, cs, .cells⟩ = if cs.all (pv depth) = true then some .z else none := rfl
def dynD (P : Program) (callD : Fun) (pure_ : FuncId → Bool) (n : Nat) (ops : Array Oper) (s : St) : Option (AX × St) := match trace P callD pure_ n ops ops.toList s with
  | some (s', l) => if pairsOk ops (fun i => (l[i]?).getD (false, false)) then some (.normal, s') else none
  | none => none
def dynK (P : Program) (callD : Fun) (pure_ : FuncId → Bool) (n : Nat) (ops : Array Oper) (r : Option (List Nat)) (s : St) : Option (AX × St) := match r with
  | some rs => dynR P callD pure_ n ops rs s
  | none => dynD P callD pure_ n ops s
theorem dynK_none {ops : Array Oper} {s : St} : dynK P callD pure_ n ops none s = dynD P callD pure_ n ops s := rfl
theorem acode_drawx {id : Nat} {ops : Array Oper} {s : St} : acode P call callD jump pure_ dyn keep n k (.region id ops true) s = if dyn id = true then dynK P callD pure_ n ops (keep (2000000 + id)) s else (aops P callD n ops ops.toList s).map fun s => (.normal, s) := by
  simp only [acode, if_true, dynK, dynD]
  rfl
theorem afill_nil {place : Nat → Option (Nat × Nat)} {cs : List AV} : afill place cs [] = some cs := rfl
theorem afill_cons {place : Nat → Option (Nat × Nat)} {cs : List AV} {i : Nat} {x : AV} {rest : List (Nat × AV)} : afill place cs ((i, x) :: rest) = (place i).bind fun p => if (solid x && (acells x).length == p.2 && decide (p.1 + p.2 ≤ cs.length)) = true then afill place (splice cs p.1 (acells x)) rest else none := by
  simp only [afill]
  cases place i with
  | none => rfl
  | some p => obtain ⟨a, b⟩ := p; rfl
def aNilC (P : Program) (ρ : Operand → AV) (o : Oper) (x : AV) : Option Res := match x with
  | .ptr b off ver => some (.val (.ptr b off ver))
  | .ro cs => some (.val (.ro cs))
  | .fn f caps => some (.val (.fn f caps))
  | _ => (sop P ρ o).map .val
theorem aop_nilCheck {ρ : Operand → AV} {d : Option Tmp} {ty : TypeId} {x : Operand} {pos : String} {af : Array Edge} {g : Option (Nat × Bool)} : aop P H ρ ⟨d, .nilCheck x, ty, pos, af, g⟩ = aNilC P ρ ⟨d, .nilCheck x, ty, pos, af, g⟩ (ρ x) := rfl
theorem aNilC_ptr {ρ : Operand → AV} {o : Oper} {b off ver : Nat} : aNilC P ρ o (.ptr b off ver) = some (.val (.ptr b off ver)) := rfl
theorem aNilC_ro {ρ : Operand → AV} {o : Oper} {cs : List AV} : aNilC P ρ o (.ro cs) = some (.val (.ro cs)) := rfl
theorem aBin_ptr_nil {t e : TypeId} {p q : Operand} {b off ver : Nat} (h : P.underlying t = some (.pointer e)) : aBin P H .eql t p q (.ptr b off ver) (.sc (.pointer none)) = some (.val (.sc (.bool false))) := by
  have : nilTest P H .eql t (.ptr b off ver) (.sc (.pointer none)) = some false := by
    simp [nilTest, some_, nilKind, kindOf, h]
  simp only [aBin, this]
theorem aBin_nil_nil {t e : TypeId} {p q : Operand} (h : P.underlying t = some (.pointer e)) : aBin P H .eql t p q (.sc (.pointer none)) (.sc (.pointer none)) = some (.val (.sc (.bool true))) := by
  have h1 : nilTest P H .eql t (.sc (.pointer none)) (.sc (.pointer none)) = none := by
    simp [nilTest, some_]
  have h2 : ptrTest P H .eql t (.sc (.pointer none)) (.sc (.pointer none)) = none := rfl
  have he : pureRun P (Op.equal t (.pointer none) (.pointer none)) = some true := by
    have : ∀ d, pureRun P (Op.equalIn (d + 1) t (.pointer none) (.pointer none)) = some true := fun d => by
      simp [Op.equalIn, pureRun_bind, pureRun_under h, pureRun_pure]
    exact this 9999
  have hg : pureRun P (eqGuard .eql t p q (.pointer none) (.pointer none)) = some () := rfl
  simp only [aBin, h1, h2, toV, Option.isSome_some, Bool.and_self, if_true, Option.getD_some, pOut, pureRun_bind, hg, Option.bind_some, binOp, he, pureRun_pure, ofV, Option.map_some]
theorem aBin_ptr_same {t e : TypeId} {n : Nat} {p q : Operand} {b off ver : Nat} {blk : Blk} (h : P.underlying t = some (.pointer e)) (hs : szOf P e = some (n + 1)) (hb : blkAt H b ver = some blk) : aBin P H .neq t p q (.ptr b off ver) (.ptr b off ver) = some (.val (.sc (.bool false))) := by
  have h1 : nilTest P H .neq t (.ptr b off ver) (.ptr b off ver) = none := by simp [nilTest, nilKind]
  have h2 : ptrTest P H .neq t (.ptr b off ver) (.ptr b off ver) = some false := by simp [ptrTest, hb, h, hs]
  simp only [aBin, h1, h2]
def aConv (P : Program) (H : List Blk) (ρ : Operand → AV) (o : Oper) (src dst : TypeId) (x : AV) : Option Res := match x with
  | .ptr b off ver =>
    match P.underlying src, P.underlying dst, blkAt H b ver with
    | some (.pointer t), some .unsafePointer, some blk => match szOf P t with
      | some (_ + 1) => if off < blk.cells.length then some (.val (.ptr b off ver)) else none
      | _ => none
    | some .unsafePointer, some (.pointer u), some blk =>
      if !blk.grow && (P.info? u).isSome && liesAt P P.depth blk.elem (blk.cells.length / P.cellsOf blk.elem) off u 1 then some (.val (.ptr b off ver)) else none
    | _, _, _ => none
  | _ => (sop P ρ o).map .val
theorem aop_convert {ρ : Operand → AV} {d : Option Tmp} {ty src dst : TypeId} {x : Operand} {pos : String} {af : Array Edge} {g : Option (Nat × Bool)} : aop P H ρ ⟨d, .convert src dst x, ty, pos, af, g⟩ = aConv P H ρ ⟨d, .convert src dst x, ty, pos, af, g⟩ src dst (ρ x) := rfl
theorem aConv_out {ρ : Operand → AV} {o : Oper} {src dst t : TypeId} {b off ver n : Nat} {blk : Blk} (h1 : P.underlying src = some (.pointer t)) (h2 : P.underlying dst = some .unsafePointer) (hs : szOf P t = some (n + 1)) (hb : blkAt H b ver = some blk) (ho : off < blk.cells.length) : aConv P H ρ o src dst (.ptr b off ver) = some (.val (.ptr b off ver)) := by
  simp only [aConv, h1, h2, hb, hs, if_pos ho]
theorem aConv_in {ρ : Operand → AV} {o : Oper} {src dst u : TypeId} {b off ver : Nat} {blk : Blk} (h1 : P.underlying src = some .unsafePointer) (h2 : P.underlying dst = some (.pointer u)) (hb : blkAt H b ver = some blk) (hl : (!blk.grow && (P.info? u).isSome && liesAt P P.depth blk.elem (blk.cells.length / P.cellsOf blk.elem) off u 1) = true) : aConv P H ρ o src dst (.ptr b off ver) = some (.val (.ptr b off ver)) := by
  simp only [aConv, h1, h2, hb, if_pos hl]
def bytesC (s : ByteArray) : List AV := s.data.toList.map fun c => .sc (.int .u8 c.toNat)
theorem bytesC_len {s : ByteArray} : (bytesC s).length = s.size := by simp [bytesC]
theorem bytesC_append {s t : ByteArray} : bytesC (s ++ t) = bytesC s ++ bytesC t := by simp [bytesC]
theorem app_nil {t u e : TypeId} {i : TypeInfo} {c : ByteArray} (h1 : P.underlying t = some (.slice e)) (h2 : P.underlying u = some .string) (h3 : P.info? e = some i) (h4 : i.zero = some (.int .u8 0)) (h5 : i.size = 1) (h6 : i.bytes = 1) (hc : 0 < c.size) (hb : c.size ≤ 140737488355328) :
    aappend2 P H t u (.sc (.slice none 0 0)) (.sc (.string c)) = some (.new (.own H.length 0 c.size 1 0) ⟨e, 1, 0, true, bytesC c, .cells⟩) := by
  simp [aappend2, h1, h2, h3, h4, h5, h6, hc, hb, bytesC]
theorem app_own {t u e : TypeId} {i : TypeInfo} {c s : ByteArray} {b ver : Nat} (h1 : P.underlying t = some (.slice e)) (h2 : P.underlying u = some .string) (h3 : P.info? e = some i) (h4 : i.zero = some (.int .u8 0)) (h5 : i.size = 1) (h6 : i.bytes = 1) (hk : H[b]? = some ⟨e, 1, ver, true, bytesC s, .cells⟩) (hc : 0 < c.size) (hb : s.size + c.size ≤ 140737488355328) :
    aappend2 P H t u (.own b 0 s.size 1 ver) (.sc (.string c)) = some (.upd (.own b 0 (s.size + c.size) 1 (ver + 1)) b ⟨e, 1, ver + 1, true, bytesC (s ++ c), .cells⟩) := by
  simp only [aappend2, h1, h2, h3, h4, h5, h6, blkAt_some' hk rfl rfl, bytesC_append]
  rw [if_pos (by simp), if_pos (by simp [bytesC_len, hc, hb])]
  rw [← bytesC_len (s := s), List.take_length]
  rfl
theorem bytes_of_bytesC : ∀ (l : List UInt8), bytesOf (l.map fun c => AV.sc (.int .u8 c.toNat)) = some l
  | [] => rfl
  | c :: l => by
    have ih := bytes_of_bytesC l
    simp only [List.map_cons, bytesOf]
    have h : ((c.toNat : Int).toNat.toUInt8) = c := by simp
    rw [if_pos (by rw [h]), ih, h]
    rfl
theorem ofV_pointer {a : Option Addr} : ofV (.pointer a) = .sc (.pointer a) := rfl
theorem ofV_map {a : Option Nat} : ofV (.map a) = .sc (.map a) := rfl
theorem ofV_nilFunc : ofV .nilFunc = .sc .nilFunc := rfl
theorem ofV_nilIface : ofV .nilIface = .sc .nilIface := rfl
theorem acall_0 {mode : FuncId → Nat} {strict : Bool} {f : FuncId} {args : List AV} (hm : mode f = 0) : acall mode strict call f args H = call f args H := by
  simp only [acall, hm]
theorem arun_nobody {C : Cfg} {f : FuncId} {fn : Func} {args : List AV} (hp : C.prim f = none) (hf : P.funcs[f]? = some fn) (hb : fn.body = none) : ∀ k, arun P C k f args H = none
  | 0 => rfl
  | k + 1 => by
    simp only [arun, hp, abody, hf, hb]
    split <;> rfl
theorem one_sc (v : Value) : one (.sc v) = v.oneCell' := rfl
theorem solid_sc (v : Value) : solid (.sc v) = v.oneCell' := rfl
theorem acells_sc (v : Value) : acells (.sc v) = [(.sc v)] := rfl
theorem one_lst (s : Nat) (r : List (List AV)) : one (.lst s r) = true := rfl
theorem solid_lst (s : Nat) (r : List (List AV)) : solid (.lst s r) = true := rfl
theorem acells_lst (s : Nat) (r : List (List AV)) : acells (.lst s r) = [(.lst s r)] := rfl
theorem one_ro (c : List AV) : one (.ro c) = true := rfl
theorem solid_ro (c : List AV) : solid (.ro c) = true := rfl
theorem acells_ro (c : List AV) : acells (.ro c) = [(.ro c)] := rfl
theorem one_own (b o l s v : Nat) : one (.own b o l s v) = true := rfl
theorem solid_own (b o l s v : Nat) : solid (.own b o l s v) = true := rfl
theorem acells_own (b o l s v : Nat) : acells (.own b o l s v) = [(.own b o l s v)] := rfl
theorem one_ptr (b o v : Nat) : one (.ptr b o v) = true := rfl
theorem solid_ptr (b o v : Nat) : solid (.ptr b o v) = true := rfl
theorem acells_ptr (b o v : Nat) : acells (.ptr b o v) = [(.ptr b o v)] := rfl
theorem one_fn (f : FuncId) (c : List AV) : one (.fn f c) = true := rfl
theorem solid_fn (f : FuncId) (c : List AV) : solid (.fn f c) = true := rfl
theorem acells_fn (f : FuncId) (c : List AV) : acells (.fn f c) = [(.fn f c)] := rfl
theorem one_ifc (t : TypeId) (x : AV) : one (.ifc t x) = true := rfl
theorem solid_ifc (t : TypeId) (x : AV) : solid (.ifc t x) = true := rfl
theorem acells_ifc (t : TypeId) (x : AV) : acells (.ifc t x) = [(.ifc t x)] := rfl
theorem one_z  : one .z = true := rfl
theorem solid_z  : solid .z = true := rfl
theorem acells_z  : acells .z = [.z] := rfl
theorem one_mp (b v : Nat) : one (.mp b v) = true := rfl
theorem solid_mp (b v : Nat) : solid (.mp b v) = true := rfl
theorem acells_mp (b v : Nat) : acells (.mp b v) = [(.mp b v)] := rfl
theorem solid_agg (cs : List AV) : solid (.agg cs) = true := rfl
theorem acells_agg (cs : List AV) : acells (.agg cs) = cs := rfl
theorem emp : (⟨#[]⟩ : ByteArray) = .empty := rfl
def bitOf (r : Option Res) (t : Bool) : Bool × Bool := match r with
  | some (.upd _ _ _) => (true, true)
  | some (.new _ _) => (true, false)
  | _ => (t, false)
theorem bitOf_upd {x : AV} {i : Nat} {b : Blk} {t : Bool} : bitOf (some (.upd x i b)) t = (true, true) := rfl
theorem bitOf_new {x : AV} {b : Blk} {t : Bool} : bitOf (some (.new x b)) t = (true, false) := rfl
theorem bitOf_val {x : AV} {t : Bool} : bitOf (some (.val x)) t = (t, false) := rfl
def bitB (P : Program) (pure_ : FuncId → Bool) (E : Env) (H : List Blk) (o : Oper) : Bool × Bool :=
    match (match o.op with | .call c => callee (aeval E) c | _ => none) with
    | some (f, _) => (true, !pure_ f)
    | none => match aop P H (aeval E) o with
      | some (.upd _ _ _) => (true, true)
      | some (.new _ _) => (true, false)
      | _ => (touchV (aeval E) o.op, false)
def whenP (w : Option Bool) (x : Bool × Bool) : Bool × Bool := match w with
  | some true => x
  | _ => (false, false)
theorem whenP_t {x : Bool × Bool} : whenP (some true) x = x := rfl
theorem whenP_f {x : Bool × Bool} : whenP (some false) x = (false, false) := rfl
theorem bit_eq {pure_ : FuncId → Bool} {ops : Array Oper} {o : Oper} {E : Env} : bit P pure_ ops o ⟨E, H⟩ = whenP (awanted ops E o) (bitB P pure_ E H o) := by
  unfold bit whenP
  cases awanted ops E o with
  | none => rfl
  | some b => cases b <;> rfl
def nextT (P : Program) (callD : Fun) (pure_ : FuncId → Bool) (n : Nat) (ops : Array Oper) (os : List Oper) (b : Bool × Bool) (r : Option St) : Option (St × List (Bool × Bool)) := match r with
  | some s => (trace P callD pure_ n ops os s).map fun p => (p.1, b :: p.2)
  | none => none
theorem nextT_some {ops : Array Oper} {os : List Oper} {b : Bool × Bool} {s : St} : nextT P callD pure_ n ops os b (some s) = (trace P callD pure_ n ops os s).map fun p => (p.1, b :: p.2) := rfl
theorem trace_nil {ops : Array Oper} {s : St} : trace P callD pure_ n ops [] s = some (s, []) := rfl
theorem trace_cons {ops : Array Oper} {os : List Oper} {o : Oper} {E : Env} : trace P callD pure_ n ops (o :: os) ⟨E, H⟩ = nextT P callD pure_ n ops os (whenP (awanted ops E o) (bitB P pure_ E H o)) (whenB (awanted ops E o) (putR n o.dst E (acallH P callD H (aeval E) o)) (putR n o.dst E (some (.sc undef, H)))) := by
  have ha : astep P callD n ops o ⟨E, H⟩ = whenB (awanted ops E o) (putR n o.dst E (acallH P callD H (aeval E) o)) (putR n o.dst E (some (.sc undef, H))) := by
    simp only [astep, aval, whenB, putR]
    cases awanted ops E o with
    | none => rfl
    | some b => cases b <;> rfl
  simp only [trace, ha, nextT, bit_eq]
  cases whenB (awanted ops E o) (putR n o.dst E (acallH P callD H (aeval E) o)) (putR n o.dst E (some (.sc undef, H))) with
  | none => rfl
  | some s' =>
    dsimp only
    cases trace P callD pure_ n ops os s' <;> rfl
theorem awanted_no {ops : Array Oper} {E : Env} {d : Option Tmp} {op : Op} {ty : TypeId} {pos : String} {af : Array Edge} : awanted ops E ⟨d, op, ty, pos, af, none⟩ = some true := rfl
theorem bitB_call {E : Env} {d : Option Tmp} {ty : TypeId} {pos : String} {af : Array Edge} {g : Option (Nat × Bool)} {f : FuncId} {as : Array Operand} {ts : Array TypeId} : bitB P pure_ E H ⟨d, .call ⟨.value (.func f), as, ts⟩, ty, pos, af, g⟩ = (true, !pure_ f) := rfl
theorem bitB_builtin {E : Env} {d : Option Tmp} {ty : TypeId} {pos : String} {af : Array Edge} {g : Option (Nat × Bool)} {b : Builtin} {as : Array Operand} {ts : Array TypeId} : bitB P pure_ E H ⟨d, .call ⟨.builtin b, as, ts⟩, ty, pos, af, g⟩ = bitOf (aop P H (aeval E) ⟨d, .call ⟨.builtin b, as, ts⟩, ty, pos, af, g⟩) (touchV (aeval E) (.call ⟨.builtin b, as, ts⟩)) := rfl
theorem bitB_move {E : Env} {d : Option Tmp} {ty : TypeId} {pos : String} {af : Array Edge} {g : Option (Nat × Bool)} (x : Operand) : bitB P pure_ E H ⟨d, .move x, ty, pos, af, g⟩ = bitOf (aop P H (aeval E) ⟨d, .move x, ty, pos, af, g⟩) (touchV (aeval E) (.move x)) := rfl
theorem touch_move {ρ : Operand → AV} (x : Operand) : touchV ρ (.move x) = (false) := rfl
theorem bitB_assign {E : Env} {d : Option Tmp} {ty : TypeId} {pos : String} {af : Array Edge} {g : Option (Nat × Bool)} (x : Operand) : bitB P pure_ E H ⟨d, .assign x, ty, pos, af, g⟩ = bitOf (aop P H (aeval E) ⟨d, .assign x, ty, pos, af, g⟩) (touchV (aeval E) (.assign x)) := rfl
theorem touch_assign {ρ : Operand → AV} (x : Operand) : touchV ρ (.assign x) = (false) := rfl
theorem bitB_pick {E : Env} {d : Option Tmp} {ty : TypeId} {pos : String} {af : Array Edge} {g : Option (Nat × Bool)} (x y w : Operand) : bitB P pure_ E H ⟨d, .pick x y w, ty, pos, af, g⟩ = bitOf (aop P H (aeval E) ⟨d, .pick x y w, ty, pos, af, g⟩) (touchV (aeval E) (.pick x y w)) := rfl
theorem touch_pick {ρ : Operand → AV} (x y w : Operand) : touchV ρ (.pick x y w) = (false) := rfl
theorem bitB_box {E : Env} {d : Option Tmp} {ty : TypeId} {pos : String} {af : Array Edge} {g : Option (Nat × Bool)} (x : TypeId) (y : Operand) : bitB P pure_ E H ⟨d, .box x y, ty, pos, af, g⟩ = bitOf (aop P H (aeval E) ⟨d, .box x y, ty, pos, af, g⟩) (touchV (aeval E) (.box x y)) := rfl
theorem touch_box {ρ : Operand → AV} (x : TypeId) (y : Operand) : touchV ρ (.box x y) = (true) := rfl
theorem bitB_alloc {E : Env} {d : Option Tmp} {ty : TypeId} {pos : String} {af : Array Edge} {g : Option (Nat × Bool)} (x : TypeId) : bitB P pure_ E H ⟨d, .alloc x, ty, pos, af, g⟩ = bitOf (aop P H (aeval E) ⟨d, .alloc x, ty, pos, af, g⟩) (touchV (aeval E) (.alloc x)) := rfl
theorem touch_alloc {ρ : Operand → AV} (x : TypeId) : touchV ρ (.alloc x) = (true) := rfl
theorem bitB_build {E : Env} {d : Option Tmp} {ty : TypeId} {pos : String} {af : Array Edge} {g : Option (Nat × Bool)} (x : TypeId) (y : Array (Nat × Operand)) : bitB P pure_ E H ⟨d, .build x y, ty, pos, af, g⟩ = bitOf (aop P H (aeval E) ⟨d, .build x y, ty, pos, af, g⟩) (touchV (aeval E) (.build x y)) := rfl
theorem touch_build {ρ : Operand → AV} (x : TypeId) (y : Array (Nat × Operand)) : touchV ρ (.build x y) = (false) := rfl
theorem bitB_buildSlice {E : Env} {d : Option Tmp} {ty : TypeId} {pos : String} {af : Array Edge} {g : Option (Nat × Bool)} (x : TypeId) (y : Nat) (w : Array (Nat × Operand)) : bitB P pure_ E H ⟨d, .buildSlice x y w, ty, pos, af, g⟩ = bitOf (aop P H (aeval E) ⟨d, .buildSlice x y w, ty, pos, af, g⟩) (touchV (aeval E) (.buildSlice x y w)) := rfl
theorem touch_buildSlice {ρ : Operand → AV} (x : TypeId) (y : Nat) (w : Array (Nat × Operand)) : touchV ρ (.buildSlice x y w) = (true) := rfl
theorem bitB_load {E : Env} {d : Option Tmp} {ty : TypeId} {pos : String} {af : Array Edge} {g : Option (Nat × Bool)} (x : TypeId) (y : Operand) : bitB P pure_ E H ⟨d, .load x y, ty, pos, af, g⟩ = bitOf (aop P H (aeval E) ⟨d, .load x y, ty, pos, af, g⟩) (touchV (aeval E) (.load x y)) := rfl
theorem touch_load {ρ : Operand → AV} (x : TypeId) (y : Operand) : touchV ρ (.load x y) = (!byVal (ρ y)) := rfl
theorem bitB_store {E : Env} {d : Option Tmp} {ty : TypeId} {pos : String} {af : Array Edge} {g : Option (Nat × Bool)} (x : TypeId) (y w : Operand) : bitB P pure_ E H ⟨d, .store x y w, ty, pos, af, g⟩ = bitOf (aop P H (aeval E) ⟨d, .store x y w, ty, pos, af, g⟩) (touchV (aeval E) (.store x y w)) := rfl
theorem touch_store {ρ : Operand → AV} (x : TypeId) (y w : Operand) : touchV ρ (.store x y w) = (true) := rfl
theorem bitB_nilCheck {E : Env} {d : Option Tmp} {ty : TypeId} {pos : String} {af : Array Edge} {g : Option (Nat × Bool)} (x : Operand) : bitB P pure_ E H ⟨d, .nilCheck x, ty, pos, af, g⟩ = bitOf (aop P H (aeval E) ⟨d, .nilCheck x, ty, pos, af, g⟩) (touchV (aeval E) (.nilCheck x)) := rfl
theorem touch_nilCheck {ρ : Operand → AV} (x : Operand) : touchV ρ (.nilCheck x) = (false) := rfl
theorem bitB_binOp {E : Env} {d : Option Tmp} {ty : TypeId} {pos : String} {af : Array Edge} {g : Option (Nat × Bool)} (x : BinOp) (y : TypeId) (w u : Operand) (v : TypeId) : bitB P pure_ E H ⟨d, .binOp x y w u v, ty, pos, af, g⟩ = bitOf (aop P H (aeval E) ⟨d, .binOp x y w u v, ty, pos, af, g⟩) (touchV (aeval E) (.binOp x y w u v)) := rfl
theorem touch_binOp {ρ : Operand → AV} (x : BinOp) (y : TypeId) (w u : Operand) (v : TypeId) : touchV ρ (.binOp x y w u v) = (!((toV (ρ w)).isSome && (toV (ρ u)).isSome)) := rfl
theorem bitB_unOp {E : Env} {d : Option Tmp} {ty : TypeId} {pos : String} {af : Array Edge} {g : Option (Nat × Bool)} (x : UnOp) (y : TypeId) (w : Operand) : bitB P pure_ E H ⟨d, .unOp x y w, ty, pos, af, g⟩ = bitOf (aop P H (aeval E) ⟨d, .unOp x y w, ty, pos, af, g⟩) (touchV (aeval E) (.unOp x y w)) := rfl
theorem touch_unOp {ρ : Operand → AV} (x : UnOp) (y : TypeId) (w : Operand) : touchV ρ (.unOp x y w) = (false) := rfl
theorem bitB_makeFunc {E : Env} {d : Option Tmp} {ty : TypeId} {pos : String} {af : Array Edge} {g : Option (Nat × Bool)} (x : Fn) (y w : Array Operand) : bitB P pure_ E H ⟨d, .makeFunc x y w, ty, pos, af, g⟩ = bitOf (aop P H (aeval E) ⟨d, .makeFunc x y w, ty, pos, af, g⟩) (touchV (aeval E) (.makeFunc x y w)) := rfl
theorem touch_makeFunc {ρ : Operand → AV} (x : Fn) (y w : Array Operand) : touchV ρ (.makeFunc x y w) = (false) := rfl
theorem bitB_slice {E : Env} {d : Option Tmp} {ty : TypeId} {pos : String} {af : Array Edge} {g : Option (Nat × Bool)} (x : TypeId) (y : Operand) (w u v : Option Operand) : bitB P pure_ E H ⟨d, .slice x y w u v, ty, pos, af, g⟩ = bitOf (aop P H (aeval E) ⟨d, .slice x y w u v, ty, pos, af, g⟩) (touchV (aeval E) (.slice x y w u v)) := rfl
theorem touch_slice {ρ : Operand → AV} (x : TypeId) (y : Operand) (w u v : Option Operand) : touchV ρ (.slice x y w u v) = (!byVal (ρ y)) := rfl
theorem bitB_fieldAddr {E : Env} {d : Option Tmp} {ty : TypeId} {pos : String} {af : Array Edge} {g : Option (Nat × Bool)} (x : TypeId) (y : Operand) (w : Nat) : bitB P pure_ E H ⟨d, .fieldAddr x y w, ty, pos, af, g⟩ = bitOf (aop P H (aeval E) ⟨d, .fieldAddr x y w, ty, pos, af, g⟩) (touchV (aeval E) (.fieldAddr x y w)) := rfl
theorem touch_fieldAddr {ρ : Operand → AV} (x : TypeId) (y : Operand) (w : Nat) : touchV ρ (.fieldAddr x y w) = (!byVal (ρ y)) := rfl
theorem bitB_field {E : Env} {d : Option Tmp} {ty : TypeId} {pos : String} {af : Array Edge} {g : Option (Nat × Bool)} (x : TypeId) (y : Operand) (w : Nat) : bitB P pure_ E H ⟨d, .field x y w, ty, pos, af, g⟩ = bitOf (aop P H (aeval E) ⟨d, .field x y w, ty, pos, af, g⟩) (touchV (aeval E) (.field x y w)) := rfl
theorem touch_field {ρ : Operand → AV} (x : TypeId) (y : Operand) (w : Nat) : touchV ρ (.field x y w) = (false) := rfl
theorem bitB_indexAddr {E : Env} {d : Option Tmp} {ty : TypeId} {pos : String} {af : Array Edge} {g : Option (Nat × Bool)} (x : TypeId) (y w : Operand) : bitB P pure_ E H ⟨d, .indexAddr x y w, ty, pos, af, g⟩ = bitOf (aop P H (aeval E) ⟨d, .indexAddr x y w, ty, pos, af, g⟩) (touchV (aeval E) (.indexAddr x y w)) := rfl
theorem touch_indexAddr {ρ : Operand → AV} (x : TypeId) (y w : Operand) : touchV ρ (.indexAddr x y w) = (!byVal (ρ y)) := rfl
theorem bitB_index {E : Env} {d : Option Tmp} {ty : TypeId} {pos : String} {af : Array Edge} {g : Option (Nat × Bool)} (x : TypeId) (y w : Operand) : bitB P pure_ E H ⟨d, .index x y w, ty, pos, af, g⟩ = bitOf (aop P H (aeval E) ⟨d, .index x y w, ty, pos, af, g⟩) (touchV (aeval E) (.index x y w)) := rfl
theorem touch_index {ρ : Operand → AV} (x : TypeId) (y w : Operand) : touchV ρ (.index x y w) = (false) := rfl
theorem bitB_extract {E : Env} {d : Option Tmp} {ty : TypeId} {pos : String} {af : Array Edge} {g : Option (Nat × Bool)} (x : Operand) (y : Nat) : bitB P pure_ E H ⟨d, .extract x y, ty, pos, af, g⟩ = bitOf (aop P H (aeval E) ⟨d, .extract x y, ty, pos, af, g⟩) (touchV (aeval E) (.extract x y)) := rfl
theorem touch_extract {ρ : Operand → AV} (x : Operand) (y : Nat) : touchV ρ (.extract x y) = (false) := rfl
theorem touch_append {ρ : Operand → AV} (x y : Operand) (ts : Array TypeId) : touchV ρ (.call ⟨.builtin .append, #[x, y], ts⟩) = !(byVal (ρ x) && byVal (ρ y)) := rfl
theorem byVal_lst  (a : Nat) (b : List (List AV)) : byVal (.lst a b) = true := rfl
theorem byVal_ro  (a : List AV) : byVal (.ro a) = true := rfl
theorem byVal_sc  (a : Value) : byVal (.sc a) = true := rfl
theorem byVal_ptr  (a b c : Nat) : byVal (.ptr a b c) = false := rfl
theorem byVal_own  (a b c d e : Nat) : byVal (.own a b c d e) = false := rfl
theorem byVal_agg  (a : List AV) : byVal (.agg a) = false := rfl
theorem byVal_fn  (a : FuncId) (b : List AV) : byVal (.fn a b) = false := rfl
theorem byVal_z : byVal .z = true := rfl
theorem byVal_mkL {sz : Nat} {rows : List (List AV)} : byVal (mkL sz rows) = true := by cases rows <;> rfl
theorem app_z {t e : TypeId} {sz bytes : Nat} {more : List (List AV)} (ht : rowOk P t e sz bytes = true) (hne : more ≠ []) (hm : ∀ r ∈ more, r.all one = true) (hb : more.length * bytes ≤ 140737488355328) (hx : more.length ≤ maxLen) :
    aappend P H t .z (mkL sz more) = some (.new (.own H.length 0 more.length sz 0) ⟨e, sz, 0, true, more.flatten, .cells⟩) := by
  obtain ⟨i, zv, hu, hi, hz, rfl, rfl, hpos, hzs, _, _⟩ := rowOk_at ht
  have hcond : (decide (0 < i.size) && zv.cells.size == i.size) = true := by simp [hpos, hzs]
  have hone : more.flatten.all one = true := by
    rw [List.all_flatten, List.all_eq_true]
    exact hm
  simp only [aappend, hu, hi, hz, hcond, if_true, elems_mkL, hone]
  rw [if_pos (by simp; omega), if_neg (by simpa using hne)]
theorem app_o {t e : TypeId} {sz bytes b ver : Nat} {rows more : List (List AV)} (ht : rowOk P t e sz bytes = true) (hk : H[b]? = some ⟨e, sz, ver, true, rows.flatten, .cells⟩) (hr : ∀ r ∈ rows, r.length = sz) (hne : more ≠ []) (hm : ∀ r ∈ more, r.all one = true) (hb : (rows.length + more.length) * bytes ≤ 140737488355328) (hx : rows.length + more.length ≤ maxLen) :
    aappend P H t (.own b 0 rows.length sz ver) (mkL sz more) = some (.upd (.own b 0 (rows.length + more.length) sz (ver + 1)) b ⟨e, sz, ver + 1, true, rows.flatten ++ more.flatten, .cells⟩) := by
  obtain ⟨i, zv, hu, hi, hz, rfl, rfl, hpos, hzs, _, _⟩ := rowOk_at ht
  have hcond : (decide (0 < i.size) && zv.cells.size == i.size) = true := by simp [hpos, hzs]
  have hone : more.flatten.all one = true := by
    rw [List.all_flatten, List.all_eq_true]
    exact hm
  have hfl := flat_len' hr
  simp only [aappend, hu, hi, hz, hcond, if_true, elems_mkL, hone]
  rw [blkAt_some' hk rfl rfl]
  simp only [hfl, Nat.le_refl, decide_true, beq_self_eq_true, Bool.and_true, Bool.true_and]
  rw [if_pos (by simp; omega), if_neg (by simpa using hne), ← hfl, List.take_length]
def chk (ops : Array Oper) (r : Option (St × List (Bool × Bool))) : Option (AX × St) := match r with
  | some (s', l) => if pairsOk ops (fun i => (l[i]?).getD (false, false)) = true then some (.normal, s') else none
  | none => none
theorem dynD_eq {ops : Array Oper} {s : St} : dynD P callD pure_ n ops s = chk ops (trace P callD pure_ n ops ops.toList s) := rfl
theorem chk_some {ops : Array Oper} {s : St} {l : List (Bool × Bool)} : chk ops (some (s, l)) = if pairsOk ops (fun i => (l[i]?).getD (false, false)) = true then some (.normal, s) else none := rfl
def chkR (ops : Array Oper) (rs : List Nat) (r : Option (St × List (Bool × Bool))) : Option (AX × St) := match r with
  | some (s', l) => if (pairsOk ops (fun i => (l[i]?).getD (false, false)) && quietC ops (fun i => (l[i]?).getD (false, false)) && rsOk rs) = true then some (.normal, s') else none
  | none => none
theorem chkR_some {ops : Array Oper} {rs : List Nat} {s : St} {l : List (Bool × Bool)} : chkR ops rs (some (s, l)) = if (pairsOk ops (fun i => (l[i]?).getD (false, false)) && quietC ops (fun i => (l[i]?).getD (false, false)) && rsOk rs) = true then some (.normal, s) else none := rfl
def runR (P : Program) (callD : Fun) (pure_ : FuncId → Bool) (n : Nat) (ops : Array Oper) (rs : List Nat) (E : Env) (H : List Blk) (r : Option (List Blk)) : Option (AX × St) := match r with
  | some pre => chkR ops rs (traceR P callD pure_ n ops rs H.length 0 ops.toList ⟨E, H ++ pre⟩)
  | none => none
theorem runR_some {ops : Array Oper} {rs : List Nat} {E : Env} {pre : List Blk} : runR P callD pure_ n ops rs E H (some pre) = chkR ops rs (traceR P callD pure_ n ops rs H.length 0 ops.toList ⟨E, H ++ pre⟩) := rfl
theorem dynK_some {ops : Array Oper} {rs : List Nat} {E : Env} : dynK P callD pure_ n ops (some rs) ⟨E, H⟩ = runR P callD pure_ n ops rs E H (preR P ops rs) := by
  simp only [dynK, dynR, runR]
  cases preR P ops rs <;> rfl
def preO (P : Program) (o : Option Oper) (r : Option (List Blk)) : Option (List Blk) := match o with
  | some o => match o.op, o.guard with
    | .alloc _, none => match aop P [] (fun _ => .bad) o, r with
      | some (.new _ blk), some l => some (blk :: l)
      | _, _ => none
    | _, _ => none
  | none => none
def preN (a : Option Res) (r : Option (List Blk)) : Option (List Blk) := match a, r with
  | some (.new _ blk), some l => some (blk :: l)
  | _, _ => none
theorem preR_nil {ops : Array Oper} : preR P ops [] = some [] := rfl
theorem preR_cons {ops : Array Oper} {k : Nat} {ks : List Nat} : preR P ops (k :: ks) = preO P ops[k]? (preR P ops ks) := rfl
theorem preO_alloc {e : TypeId} {d : Option Tmp} {ty : TypeId} {pos : String} {af : Array Edge} {r : Option (List Blk)} : preO P (some ⟨d, .alloc e, ty, pos, af, none⟩) r = preN (aAlloc P [] e) r := rfl
theorem preN_some {x : AV} {blk : Blk} {l : List Blk} : preN (some (.new x blk)) (some l) = some (blk :: l) := rfl
theorem rsvOf_nil {k : Nat} : rsvOf [] k = none := rfl
theorem rsvOf_cons {x k : Nat} {xs : List Nat} : rsvOf (x :: xs) k = if x = k then some 0 else (rsvOf xs k).map (· + 1) := by
  simp only [rsvOf]
  have : Nat.beq x k = decide (x = k) := by rw [Bool.eq_iff_iff]; simp
  rw [this]
  by_cases h : x = k
  · simp [h]
  · simp only [h, decide_false, cond_false, if_false]
    cases rsvOf xs k <;> rfl
def nextTR (P : Program) (callD : Fun) (pure_ : FuncId → Bool) (n : Nat) (ops : Array Oper) (rs : List Nat) (h k : Nat) (os : List Oper) (b : Bool × Bool) (r : Option St) : Option (St × List (Bool × Bool)) := match r with
  | some s => (traceR P callD pure_ n ops rs h (k + 1) os s).map fun p => (p.1, b :: p.2)
  | none => none
theorem nextTR_some {ops : Array Oper} {rs : List Nat} {h k : Nat} {os : List Oper} {b : Bool × Bool} {s : St} : nextTR P callD pure_ n ops rs h k os b (some s) = (traceR P callD pure_ n ops rs h (k + 1) os s).map fun p => (p.1, b :: p.2) := rfl
theorem traceR_nil {ops : Array Oper} {rs : List Nat} {h k : Nat} {s : St} : traceR P callD pure_ n ops rs h k [] s = some (s, []) := rfl
def stepR (P : Program) (callD : Fun) (pure_ : FuncId → Bool) (n : Nat) (ops : Array Oper) (rs : List Nat) (h k : Nat) (os : List Oper) (o : Oper) (E : Env) (H : List Blk) (i : Option Nat) : Option (St × List (Bool × Bool)) := match i with
  | some i => nextTR P callD pure_ n ops rs h k os (false, false) (putR n o.dst E (some (.ptr (h + i) 0 0, H)))
  | none => nextTR P callD pure_ n ops rs h k os (whenP (awanted ops E o) (bitB P pure_ E H o)) (whenB (awanted ops E o) (putR n o.dst E (acallH P callD H (aeval E) o)) (putR n o.dst E (some (.sc undef, H))))
theorem stepR_some {ops : Array Oper} {rs : List Nat} {h k i : Nat} {os : List Oper} {o : Oper} {E : Env} : stepR P callD pure_ n ops rs h k os o E H (some i) = nextTR P callD pure_ n ops rs h k os (false, false) (putR n o.dst E (some (.ptr (h + i) 0 0, H))) := rfl
theorem stepR_none {ops : Array Oper} {rs : List Nat} {h k : Nat} {os : List Oper} {o : Oper} {E : Env} : stepR P callD pure_ n ops rs h k os o E H none = nextTR P callD pure_ n ops rs h k os (whenP (awanted ops E o) (bitB P pure_ E H o)) (whenB (awanted ops E o) (putR n o.dst E (acallH P callD H (aeval E) o)) (putR n o.dst E (some (.sc undef, H)))) := rfl
theorem traceR_cons {ops : Array Oper} {rs : List Nat} {h k : Nat} {os : List Oper} {o : Oper} {E : Env} : traceR P callD pure_ n ops rs h k (o :: os) ⟨E, H⟩ = stepR P callD pure_ n ops rs h k os o E H (rsvOf rs k) := by
  have ha : astep P callD n ops o ⟨E, H⟩ = whenB (awanted ops E o) (putR n o.dst E (acallH P callD H (aeval E) o)) (putR n o.dst E (some (.sc undef, H))) := by
    simp only [astep, aval, whenB, putR]
    cases awanted ops E o with
    | none => rfl
    | some b => cases b <;> rfl
  simp only [traceR]
  cases rsvOf rs k with
  | some i =>
    simp only [stepR, putR, nextTR]
    cases dput n E o.dst (.ptr (h + i) 0 0) with
    | none => rfl
    | some E' =>
      simp only [Option.map_some]
      cases traceR P callD pure_ n ops rs h (k + 1) os ⟨E', H⟩ <;> rfl
  | none =>
    simp only [stepR, ha, nextTR, bit_eq]
    cases whenB (awanted ops E o) (putR n o.dst E (acallH P callD H (aeval E) o)) (putR n o.dst E (some (.sc undef, H))) with
    | none => rfl
    | some s' =>
      dsimp only
      cases traceR P callD pure_ n ops rs h (k + 1) os s' <;> rfl
theorem eq_bool {t : TypeId} {a b : Bool} (ht : P.underlying t = some .bool) : pureRun P (Op.equal t (.bool a) (.bool b)) = some (a == b) := by
  have h : ∀ d, pureRun P (Op.equalIn (d + 1) t (.bool a) (.bool b)) = some (a == b) := fun d => by
    simp only [Op.equalIn, pureRun_bind, pureRun_under ht, Option.bind_some, pureRun_pure]
  exact h 9999
theorem aBin_eqlB {t : TypeId} {p q : Operand} {a b : Bool} (ht : P.underlying t = some .bool) : aBin P H .eql t p q (.sc (.bool a)) (.sc (.bool b)) = some (.val (.sc (.bool (a == b)))) := by
  unfold aBin
  rw [nilTest_flat' rfl rfl, ptrTest_flat' rfl]
  have hg : pureRun P (eqGuard .eql t p q (.bool a) (.bool b)) = some () := rfl
  simp only [toV, Option.isSome_some, Bool.and_self, if_true, Option.getD_some, pOut, pureRun_bind, hg, Option.bind_some, binOp, eq_bool ht, pureRun_pure, ofV, Option.map_some]
theorem aBin_neqB {t : TypeId} {p q : Operand} {a b : Bool} (ht : P.underlying t = some .bool) : aBin P H .neq t p q (.sc (.bool a)) (.sc (.bool b)) = some (.val (.sc (.bool (!(a == b))))) := by
  unfold aBin
  rw [nilTest_flat' rfl rfl, ptrTest_flat' rfl]
  have hg : pureRun P (eqGuard .neq t p q (.bool a) (.bool b)) = some () := rfl
  simp only [toV, Option.isSome_some, Bool.and_self, if_true, Option.getD_some, pOut, pureRun_bind, hg, Option.bind_some, binOp, eq_bool ht, pureRun_pure, ofV, Option.map_some]
end
section
variable {P : Program}
def clonePrim (P : Program) (C0 : Cfg) (f : FuncId) : List AV → List Blk → Option (AV × List Blk) := fun args H => match args with
  | [.lst _ []] => some (.z, H)
  | [.z] => some (.z, H)
  | _ => arun P C0 5 f args H
def clones (P : Program) (C0 : Cfg) (f : FuncId) : Prop := ∀ (A : Option Addr) (cap : Nat) (H : List Blk), arun P C0 5 f [.sc (.slice A 0 cap)] H = some (.sc (.slice none 0 0), H) ∨ arun P C0 5 f [.sc (.slice A 0 cap)] H = some (.z, H)
theorem clone_ok {C0 : Cfg} (hF : Fit P C0) {f : FuncId} (hc : clones P C0 f) {args : List AV} {H H' : List Blk} {r : AV} (h : clonePrim P C0 f args H = some (r, H')) : Enter P f ∧ CallOk P f args H r H' := by
  have key : ∀ x : AV, (∀ (w : World) (Fb : Nat → Prop) (B : BM) (v : Value), VR w Fb B x v → ∃ A cap, v = .slice A 0 cap) → Enter P f ∧ CallOk P f [x] H .z H := by
    intro x hx
    have hen : Enter P f := by
      rcases hc none 0 H with e | e <;> exact (right hF 5 _ _ _ _ _ e).1
    refine ⟨hen, fun w F B vs hR hFu hv => ?_⟩
    simp only [VRL] at hv
    obtain ⟨v, _, rfl, h1, rfl⟩ := hv
    obtain ⟨A, cap, rfl⟩ := hx w (Forb F B) B v h1
    rcases hc A cap H with e | e
    · refine ((right hF 5 _ _ _ _ _ e).2 w F B [.slice A 0 cap] hR hFu (by simp only [VRL, VR]; exact ⟨_, _, rfl, rfl, rfl⟩)).mono ?_
      rintro e' w' ⟨v, B', rfl, hE, hR', hF', hr⟩
      simp only [VR] at hr
      exact ⟨v, B', rfl, hE, hR', hF', by simp only [VR]; exact ⟨none, hr⟩⟩
    · exact (right hF 5 _ _ _ _ _ e).2 w F B [.slice A 0 cap] hR hFu (by simp only [VRL, VR]; exact ⟨_, _, rfl, rfl, rfl⟩)
  unfold clonePrim at h
  split at h
  · cases h
    refine key _ (fun w Fb B v hv => ?_)
    simp only [VR] at hv
    obtain ⟨A, cap, ys, rfl, _⟩ := hv
    exact ⟨A, cap, rfl⟩
  · cases h
    refine key _ (fun w Fb B v hv => ?_)
    simp only [VR] at hv
    obtain ⟨A, rfl⟩ := hv
    exact ⟨A, 0, rfl⟩
  · exact right hF 5 _ _ _ _ _ h
theorem app_z_sc {H : List Blk} {t e : TypeId} {sz bytes : Nat} {A : Option Addr} {c : Nat} (ht : rowOk P t e sz bytes = true) : aappend P H t .z (.sc (.slice A 0 c)) = some (.val .z) := by
  obtain ⟨i, zv, hu, hi, hz, rfl, rfl, hpos, hzs, _, _⟩ := rowOk_at ht
  have hcond : (decide (0 < i.size) && zv.cells.size == i.size) = true := by simp [hpos, hzs]
  have he : elems H (.sc (.slice A 0 c)) i.size = some ([], 0) := rfl
  simp only [aappend, hu, hi, hz, hcond, if_true, he]
  simp
theorem aBin_slnil {H : List Blk} {t e : TypeId} {p q : Operand} {A : Option Addr} {n m : Nat} (h : P.underlying t = some (.slice e)) : aBin P H .eql t p q (.sc (.slice A n m)) (.sc (.slice none 0 0)) = some (.val (.sc (.bool A.isNone))) := by
  have h1 : nilTest P H .eql t (.sc (.slice A n m)) (.sc (.slice none 0 0)) = none := by
    simp [nilTest, some_]
  have h2 : ptrTest P H .eql t (.sc (.slice A n m)) (.sc (.slice none 0 0)) = none := rfl
  have he : pureRun P (Op.equal t (.slice A n m) (.slice none 0 0)) = some A.isNone := by
    have : ∀ d, pureRun P (Op.equalIn (d + 1) t (.slice A n m) (.slice none 0 0)) = some A.isNone := fun d => by
      cases A <;> simp [Op.equalIn, pureRun_bind, pureRun_under h, pureRun_pure]
    exact this 9999
  have hg : pureRun P (eqGuard .eql t p q (.slice A n m) (.slice none 0 0)) = some () := rfl
  simp only [aBin, h1, h2, toV, Option.isSome_some, Bool.and_self, if_true, Option.getD_some, pOut, pureRun_bind, hg, Option.bind_some, binOp, he, pureRun_pure, ofV, Option.map_some]
end
end Go.Proofs.YtpgipdajinkdgaaGreatA
