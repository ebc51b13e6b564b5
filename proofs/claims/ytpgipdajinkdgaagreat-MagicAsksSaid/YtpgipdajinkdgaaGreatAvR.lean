/- A part of the proof of MagicAsks: functions of the program, run by the evaluator. -/

/- Regions that draw their order: each order comes to what the text's order comes to. -/
import Derived.Test.YtpgipdajinkdgaaGreatAvQ
namespace Go.Proofs.YtpgipdajinkdgaaGreatA
open Go Go.RowKit
set_option linter.all false
set_option linter.unusedSectionVars false
set_option linter.constructorNameAsVariable false
set_option linter.unusedVariables false
set_option linter.unusedSimpArgs false
section draw
variable {P : Program} {mode : FuncId → Nat} {call0 : Fun} {n N : Nat} {ops : Array Oper} {T : List Nat} {bits : Nat → Bool × Bool} {st : Nat → St} {xs : Nat → AV} {F : Nat → Prop} {rv : Nat → Option (Nat × Blk)} {Q : Exit → Act → World → Prop}
theorem edv_all (R : Run P mode call0 n N ops T bits st xs rv) : ∀ (i : Nat), i ≤ N → ∀ t, eget (st i).env t = edv ops (st 0).env xs (fun _ => true) i t
  | 0, _, t => rfl
  | i + 1, h, t => by
    obtain ⟨o, ho⟩ := at_ex R (i := i) (by omega)
    rw [eget_dput (R.env i o ho) t]
    simp only [edv, ho, Option.bind_some, true_and]
    rw [edv_all R i (by omega) t]
def more (D : Nat → Bool) (i : Nat) : Nat → Bool := fun k => if k = i then true else D k
theorem more_self {D : Nat → Bool} {i : Nat} : more D i i = true := by simp [more]
theorem more_ne {D : Nat → Bool} {i k : Nat} (h : k ≠ i) : more D i k = D k := by simp [more, h]
variable (hC : FunOk P call0) (R : Run P mode call0 n N ops T bits st xs rv)
include R
section ready
variable {D : Nat → Bool} (hD : ∀ j o, ops[j]? = some o → D j = true → ∀ e ∈ edgesOf o, D e = true) {i : Nat} {o : Oper} (ho : ops[i]? = some o) (hi : D i = false) (he : ∀ e ∈ edgesOf o, D e = true)
include hD ho hi he
theorem before_in {k : Nat} (h : anc T k i = true) : D k = true := anc_in R.tab hD i k o ho he h
theorem after_out {k : Nat} {x : Oper} (hk : ops[k]? = some x) (h : anc T i k = true) : D k = false := by
  cases hd : D k with
  | false => rfl
  | true => rw [anc_in R.tab hD k i x hk (hD k x hk hd) h] at hi; cases hi
theorem edv_look {t : Tmp} (ht : t ∈ o.looksAt ops) : ∀ m, m ≤ N → edv ops (st 0).env xs D m t = edv ops (st 0).env xs (fun _ => true) (min m i) t
  | 0, _ => by simp [edv]
  | m + 1, h => by
    have ih := edv_look ht m (by omega)
    obtain ⟨x, hx⟩ := at_ex R (i := m) (by omega)
    simp only [edv, hx, Option.bind_some]
    by_cases hlt : m < i
    · rw [Nat.min_eq_left (by omega), show m + 1 = m + 1 from rfl]
      simp only [edv, hx, Option.bind_some, true_and]
      rw [Nat.min_eq_left (by omega)] at ih
      by_cases hd : x.dst = some t
      · rw [if_pos hd]
        have : D m = true := by
          rcases R.pair m i x o hlt hx ho with hp | hp
          · exact before_in R hD ho hi he hp
          · exact absurd ht ((Oper.apart_spec hp.1).1 t hd)
        rw [if_pos ⟨this, hd⟩]
      · rw [if_neg (fun h => hd h.2), if_neg hd, ih]
    · rw [Nat.min_eq_right (by omega)] at ih ⊢
      rw [if_neg, ih]
      rintro ⟨h1, hd⟩
      by_cases e : m = i
      · subst e; rw [hi] at h1; cases h1
      · rcases R.pair i m o x (by omega) ho hx with hp | hp
        · rw [after_out R hD ho hi he hx hp] at h1; cases h1
        · exact absurd ht ((Oper.apart_spec hp.1).2.2 t hd)
theorem look {t : Tmp} (ht : t ∈ o.looksAt ops) : edv ops (st 0).env xs D N t = eget (st i).env t := by
  have hiN := at_lt R ho
  rw [edv_look R hD ho hi he ht N (Nat.le_refl _), Nat.min_eq_right (Nat.le_of_lt hiN), ← edv_all R i (Nat.le_of_lt hiN)]
theorem edv_more {t : Tmp} : ∀ m, m ≤ N → edv ops (st 0).env xs (more D i) m t = if i < m ∧ o.dst = some t then xs i else edv ops (st 0).env xs D m t
  | 0, _ => by simp [edv]
  | m + 1, h => by
    have ih := edv_more (t := t) m (by omega)
    obtain ⟨x, hx⟩ := at_ex R (i := m) (by omega)
    simp only [edv, hx, Option.bind_some]
    by_cases e : m = i
    · subst e
      rw [ho] at hx
      cases hx
      rw [more_self]
      by_cases hd : o.dst = some t
      · rw [if_pos ⟨rfl, hd⟩, if_pos ⟨by omega, hd⟩]
      · rw [if_neg (fun h => hd h.2), if_neg (fun h => hd h.2), if_neg (fun h => hd h.2), ih, if_neg (fun h => hd h.2)]
    · rw [more_ne e]
      by_cases hc : D m = true ∧ x.dst = some t
      · rw [if_pos hc, if_pos hc]
        by_cases hlt : i < m
        · rw [if_neg]
          rintro ⟨_, hd⟩
          rcases R.pair i m o x hlt ho hx with hp | hp
          · rw [after_out R hD ho hi he hx hp] at hc; cases hc.1
          · exact (Oper.apart_spec hp.1).2.1 t hd hc.2
        · rw [if_neg (fun h => by omega)]
      · rw [if_neg hc, if_neg hc, ih]
        by_cases hlt : i < m
        · by_cases hd : o.dst = some t
          · rw [if_pos ⟨hlt, hd⟩, if_pos ⟨by omega, hd⟩]
          · rw [if_neg (fun h => hd h.2), if_neg (fun h => hd h.2)]
        · rw [if_neg (fun h => hlt h.1), if_neg (fun h => by omega)]
theorem clos_more : ∀ j x, ops[j]? = some x → more D i j = true → ∀ e ∈ edgesOf x, more D i e = true := by
  intro j x hx hj e hm
  by_cases h1 : e = i
  · rw [h1]; exact more_self
  · rw [more_ne h1]
    by_cases h2 : j = i
    · subst h2; rw [ho] at hx; cases hx; exact he e hm
    · rw [more_ne h2] at hj; exact hD j x hx hj e hm
end ready
section ready2
variable {D : Nat → Bool} {p q : Nat} {w : World} {B : BM} {a : Act} (I : Inv n N ops bits st xs rv F D p q w B a) {i : Nat} {o : Oper} (ho : ops[i]? = some o) (hi : D i = false) (he : ∀ e ∈ edgesOf o, D e = true)
include I ho hi he
theorem pos_of_touch (ht : (bits i).1 = true) : i ≤ q ∧ p ≤ i := by
  have hiN := at_lt R ho
  have hD := I.clos
  constructor
  · rcases I.top with e | ⟨hq, hm⟩
    · omega
    · obtain ⟨x, hx⟩ := at_ex R hq
      rcases Nat.lt_or_ge q i with hlt | hge
      · exfalso
        have hDq : D q = false := by
          cases hd : D q with
          | false => rfl
          | true => have := (I.mods q hq hm).1 hd; have := I.pq; omega
        rcases R.pair q i x o hlt hx ho with hp | hp
        · rw [before_in R hD ho hi he hp] at hDq; cases hDq
        · rw [hp.2.1 hm] at ht; cases ht
      · exact hge
  · rcases I.bot with e | ⟨hq, hm⟩
    · omega
    · obtain ⟨x, hx⟩ := at_ex R hq
      rcases Nat.lt_or_ge i p with hlt | hge
      · exfalso
        have hDp : D (p - 1) = true := (I.mods (p - 1) hq hm).2 (by omega)
        have hne : i ≠ p - 1 := fun e => by rw [e, hDp] at hi; cases hi
        rcases R.pair i (p - 1) o x (by omega) ho hx with hp | hp
        · rw [anc_in R.tab hD (p - 1) i x hx (hD (p - 1) x hx hDp) hp] at hi; cases hi
        · rw [hp.2.2 ht] at hm; cases hm
      · exact hge
theorem pos_of_mod (hm : (bits i).2 = true) : i = q := by
  obtain ⟨h1, h2⟩ := pos_of_touch R I ho hi he (R.mt i hm)
  rcases Nat.lt_or_ge i q with h | h
  · rw [I.seg i h2 h] at hm; cases hm
  · omega
theorem pos_of_quiet (hm : (bits i).2 = false) (ht : (bits i).1 = true) : p ≤ i ∧ i < q := by
  obtain ⟨h1, h2⟩ := pos_of_touch R I ho hi he ht
  refine ⟨h2, ?_⟩
  rcases Nat.lt_or_ge i q with h | h
  · exact h
  · have e : i = q := by omega
    subst e
    rcases I.top with e | ⟨_, hx2⟩
    · have := at_lt R ho; omega
    · rw [hm] at hx2; cases hx2
theorem full_q0 (hm : (bits i).2 = true) : ∀ b, b < (st q).heap.length → (∃ e, B b = some e) ∨ ∃ k x, rv k = some (b, x) ∧ D k = false := by
  have hiq := pos_of_mod R I ho hi he hm
  subst hiq
  intro b hb
  rcases Nat.lt_or_ge b (st p).heap.length with h | h
  · exact I.full b h
  · -- who made it
    have key : ∀ m, p + m ≤ i → b < (st (p + m)).heap.length → ∃ k, p ≤ k ∧ k < p + m ∧ (st k).heap.length ≤ b ∧ b < (st (k + 1)).heap.length := by
      intro m
      induction m with
      | zero => intro _ hb; simp at hb; omega
      | succ m ih =>
        intro hle hb
        rcases Nat.lt_or_ge b (st (p + m)).heap.length with h' | h'
        · obtain ⟨k, h1, h2, h3⟩ := ih (by omega) h'
          exact ⟨k, h1, by omega, h3⟩
        · exact ⟨p + m, by omega, by omega, h', by rw [show p + m + 1 = p + (m + 1) by omega]; exact hb⟩
    obtain ⟨m, rfl⟩ : ∃ m, i = p + m := ⟨i - p, by have := I.pq; omega⟩
    obtain ⟨k, h1, h2, h3, h4⟩ := key m (Nat.le_refl _) hb
    obtain ⟨x, hx⟩ := at_ex R (i := k) (by have := I.qN; omega)
    have hxm := I.seg k h1 h2
    rcases R.heap k x hx hxm with e | ⟨b', e, ht⟩
    · rw [e] at h4; omega
    · have hDk : D k = true := by
        rcases R.pair k (p + m) x o h2 hx ho with hp | hp
        · exact before_in R I.clos ho hi he hp
        · rw [hp.2.2 ht] at hm; cases hm
      exact .inl ((I.new k h1 h2 b h3 h4).1 hDk)
theorem full_q (hm : (bits i).2 = true) (hr : ∀ k, rv k = none) : Full B (st q).heap := fun b hb => (full_q0 R I ho hi he hm b hb).elim id fun ⟨k, x, h, _⟩ => by rw [hr k] at h; cases h
theorem inv_quiet (hm : (bits i).2 = false) (hrv : rv i = none) {w' : World} {B' : BM} {v : Value} (hE : Ext w B w' B') (hR' : HR w' F B' (st q).heap) (hv : VR w' (Forb F B') B' (xs i) v)
    (hnew : ∀ b, (st i).heap.length ≤ b → b < (st (i + 1)).heap.length → ∃ e, B' b = some e) (hold : ∀ b, ¬ ((st i).heap.length ≤ b ∧ b < (st (i + 1)).heap.length) → B' b = B b) :
    Inv n N ops bits st xs rv F (more D i) p q w' B' (a.put o.dst v) ∧ (a.put o.dst v).defers = a.defers := by
  obtain ⟨q1, q2, q3⟩ := put_rel (R.env i o ho) (fun t => (I.env t).ext hE) I.size hv
  have hiN := at_lt R ho
  refine ⟨⟨clos_more R I.clos ho hi he, fun t => ?_, q2, hR', I.pq, I.qN, I.seg, fun k hx hxm => ?_, I.top, I.bot, fun b hb => ?_, fun k h1 h2 b h3 h4 => ?_, fun k b x hk hd => ?_⟩, q3⟩
  · rw [edv_more R I.clos ho hi he N (Nat.le_refl _)]
    have := q1 t
    by_cases hd : o.dst = some t
    · rw [if_pos hd] at this; rw [if_pos ⟨hiN, hd⟩]; exact this
    · rw [if_neg hd] at this; rw [if_neg (fun h => hd h.2)]; exact this
  · have hne : k ≠ i := fun e => by subst e; rw [hm] at hxm; cases hxm
    rw [more_ne hne]
    exact I.mods k hx hxm
  · rcases I.full b hb with ⟨⟨g, v1, c1⟩, e⟩ | ⟨k, x, hk, hd⟩
    · obtain ⟨g', v', c', e', _⟩ := hE.vers b g v1 c1 e
      exact .inl ⟨_, e'⟩
    · exact .inr ⟨k, x, hk, by rw [more_ne (fun e => by rw [e, hrv] at hk; cases hk)]; exact hd⟩
  · by_cases hk : k = i
    · subst hk
      rw [more_self]
      exact ⟨fun _ => hnew b h3 h4, fun h => by cases h⟩
    · rw [more_ne hk]
      have hb : B' b = B b := by
        apply hold
        rintro ⟨h5, h6⟩
        rcases R.heap i o ho hm with e | ⟨b', e, ht⟩
        · rw [e] at h6; omega
        · obtain ⟨hp1, hp2⟩ := pos_of_quiet R I ho hi he hm ht
          rcases Nat.lt_or_ge k i with hlt | hge
          · obtain ⟨l, hl⟩ := heap_pre R I.seg I.qN (i - (k + 1)) (k + 1) (by omega) (by omega)
            rw [show k + 1 + (i - (k + 1)) = i by omega] at hl
            have := congrArg List.length hl
            simp only [List.length_append] at this
            omega
          · obtain ⟨l, hl⟩ := heap_pre R I.seg I.qN (k - (i + 1)) (i + 1) (by omega) (by omega)
            rw [show i + 1 + (k - (i + 1)) = k by omega] at hl
            have := congrArg List.length hl
            simp only [List.length_append] at this
            omega
      rw [hb]
      exact I.new k h1 h2 b h3 h4
  · have hne : k ≠ i := fun e => by rw [e, hrv] at hk; cases hk
    rw [more_ne hne] at hd
    obtain ⟨h1, h2⟩ := I.rsv k b x hk hd
    exact ⟨by rw [hold b (fun h => Nat.lt_irrefl _ (Nat.lt_of_lt_of_le (R.rlt k b x hk i (Nat.le_of_lt hiN)) h.1))]; exact h1, h2⟩
theorem inv_rsv {b0 : Nat} {x0 : Blk} (hrv : rv i = some (b0, x0)) {w' : World} {B' : BM} {v : Value} (hE : Ext w B w' B') (hR' : HR w' F B' (st q).heap) (hv : VR w' (Forb F B') B' (xs i) v)
    (hnew : ∃ e, B' b0 = some e) (hold : ∀ b, b ≠ b0 → B' b = B b) :
    Inv n N ops bits st xs rv F (more D i) p q w' B' (a.put o.dst v) ∧ (a.put o.dst v).defers = a.defers := by
  obtain ⟨q1, q2, q3⟩ := put_rel (R.env i o ho) (fun t => (I.env t).ext hE) I.size hv
  have hiN := at_lt R ho
  obtain ⟨_, _, _, _, _, _, _, hbits, _⟩ := R.rsv i _ hrv
  refine ⟨⟨clos_more R I.clos ho hi he, fun t => ?_, q2, hR', I.pq, I.qN, I.seg, fun k hx hxm => ?_, I.top, I.bot, fun b hb => ?_, fun k h1 h2 b h3 h4 => ?_, fun k b x hk hd => ?_⟩, q3⟩
  · rw [edv_more R I.clos ho hi he N (Nat.le_refl _)]
    have := q1 t
    by_cases hd : o.dst = some t
    · rw [if_pos hd] at this; rw [if_pos ⟨hiN, hd⟩]; exact this
    · rw [if_neg hd] at this; rw [if_neg (fun h => hd h.2)]; exact this
  · have hne : k ≠ i := fun e => by subst e; rw [hbits] at hxm; cases hxm
    rw [more_ne hne]
    exact I.mods k hx hxm
  · by_cases hb0 : b = b0
    · exact .inl (hb0 ▸ hnew)
    rcases I.full b hb with ⟨⟨g, v1, c1⟩, e⟩ | ⟨k, x, hk, hd⟩
    · obtain ⟨g', v', c', e', _⟩ := hE.vers b g v1 c1 e
      exact .inl ⟨_, e'⟩
    · exact .inr ⟨k, x, hk, by rw [more_ne (fun e => by rw [e, hrv] at hk; injection hk with hk; injection hk with hk; exact hb0 hk.symm)]; exact hd⟩
  · have hb : b ≠ b0 := fun e => by
      have := R.rlt i b0 x0 hrv k (by have := I.qN; omega)
      omega
    rw [hold b hb]
    by_cases hk : k = i
    · subst hk
      obtain ⟨_, _, _, _, _, _, hh, _⟩ := R.rsv k _ hrv
      rw [hh] at h4
      omega
    · rw [more_ne hk]
      exact I.new k h1 h2 b h3 h4
  · have hne : k ≠ i := fun e => by rw [e, more_self] at hd; cases hd
    rw [more_ne hne] at hd
    obtain ⟨h1, h2⟩ := I.rsv k b x hk hd
    exact ⟨by rw [hold b (fun e => hne (R.rinj k i b x x0 hk (by rw [e]; exact hrv)))]; exact h1, h2⟩
theorem inv_mod (hm : (bits i).2 = true) {w' : World} {B' : BM} {v : Value} (hE : Ext w B w' B') (hR' : HR w' F B' (st (i + 1)).heap) (hF' : ∀ b, b < (st (i + 1)).heap.length → (∃ e, B' b = some e) ∨ ∃ k x, rv k = some (b, x) ∧ D k = false) (hP' : ∀ k b x, rv k = some (b, x) → D k = false → B' b = none ∧ (st (i + 1)).heap[b]? = some x) (hv : VR w' (Forb F B') B' (xs i) v) :
    (∃ p' q', Inv n N ops bits st xs rv F (more D i) p' q' w' B' (a.put o.dst v)) ∧ (a.put o.dst v).defers = a.defers := by
  have hiq := pos_of_mod R I ho hi he hm
  have hri : ¬ ∃ e, rv i = some e := fun ⟨e, h⟩ => by
    obtain ⟨_, _, _, _, _, _, _, hb, _⟩ := R.rsv i e h
    rw [hb] at hm; cases hm
  obtain ⟨q1, q2, q3⟩ := put_rel (R.env i o ho) (fun t => (I.env t).ext hE) I.size hv
  have hiN := at_lt R ho
  obtain ⟨q', h1, h2, h3, h4⟩ := next_ex (N := N) (bits := bits) (N - (i + 1)) (i + 1) (by omega)
  have hlt : ∀ b e, B' b = some e → b < (st (i + 1)).heap.length := fun b e hb => by
    obtain ⟨g, v1, c1⟩ := e
    obtain ⟨_, k, _⟩ := hR'.at_ _ _ _ _ hb
    rcases Nat.lt_or_ge b (st (i + 1)).heap.length with h' | h'
    · exact h'
    · rw [List.getElem?_eq_none h'] at k; cases k
  obtain ⟨l, hl⟩ := heap_pre R h3 h2 (q' - (i + 1)) (i + 1) (Nat.le_refl _) (by omega)
  rw [show i + 1 + (q' - (i + 1)) = q' by omega] at hl
  refine ⟨⟨i + 1, q', clos_more R I.clos ho hi he, fun t => ?_, q2, ⟨fun b g v1 c1 hb => ?_, fun b1 b2 g1 v1 v2 c1 c2 k1 k2 => (hR'.inj b1 b2 g1 v1 v2 c1 c2 k1 k2).imp id fun h => h.mono (by rw [hl, List.getElem?_append_left (hlt b1 _ k1)]) (by rw [hl, List.getElem?_append_left (hlt b2 _ k2)]), hR'.nf, hR'.lt⟩, h1, h2, h3, fun k hx hxm => ?_, h4, .inr ⟨by simpa using hiN, by simpa using hm⟩, (fun b hb => (hF' b hb).imp id fun ⟨k, x, h1, h2⟩ => ⟨k, x, h1, by rw [more_ne (fun e => hri ⟨(b, x), by rw [← e]; exact h1⟩)]; exact h2⟩), fun k k1 k2 b k3 k4 => ?_, fun k b x hk hd => ?_⟩, q3⟩
  · rw [edv_more R I.clos ho hi he N (Nat.le_refl _)]
    have := q1 t
    by_cases hd : o.dst = some t
    · rw [if_pos hd] at this; rw [if_pos ⟨hiN, hd⟩]; exact this
    · rw [if_neg hd] at this; rw [if_neg (fun h => hd h.2)]; exact this
  · obtain ⟨blk, e1, e2⟩ := hR'.at_ b g v1 c1 hb
    exact ⟨blk, by rw [hl, List.getElem?_append_left (hlt b _ hb)]; exact e1, e2⟩
  · by_cases hk : k = i
    · subst hk; rw [more_self]; exact ⟨fun _ => by omega, fun _ => rfl⟩
    · rw [more_ne hk, I.mods k hx hxm]
      constructor
      · intro h; have := I.pq; omega
      · intro h
        rcases Nat.lt_or_ge k p with h' | h'
        · exact h'
        · rw [I.seg k h' (by omega)] at hxm; cases hxm
  · obtain ⟨x, hx⟩ := at_ex R (i := k) (by omega)
    have hxm := h3 k k1 k2
    have hge : (st (i + 1)).heap.length ≤ (st k).heap.length := by
      obtain ⟨l', hl'⟩ := heap_pre R h3 h2 (k - (i + 1)) (i + 1) (Nat.le_refl _) (by omega)
      rw [show i + 1 + (k - (i + 1)) = k by omega] at hl'
      rw [hl']; simp
    have hnone : B' b = none := by
      cases hb : B' b with
      | none => rfl
      | some e => have := hlt b e hb; omega
    refine ⟨fun hd => ?_, fun _ => hnone⟩
    exfalso
    rw [more_ne (by omega)] at hd
    rcases R.heap k x hx hxm with e | ⟨b', e, ht⟩
    · rw [e] at k4; omega
    · rcases R.pair i k o x (by omega) ho hx with hp | hp
      · rw [after_out R I.clos ho hi he hx hp] at hd; cases hd
      · rw [hp.2.1 hm] at ht; cases ht
  · have hne : k ≠ i := fun e => hri ⟨(b, x), by rw [← e]; exact hk⟩
    rw [more_ne hne] at hd
    obtain ⟨k1, k2⟩ := hP' k b x hk hd
    exact ⟨k1, by rw [hl, List.getElem?_append_left (by rcases Nat.lt_or_ge b (st (i + 1)).heap.length with h' | h'; exact h'; rw [List.getElem?_eq_none h'] at k2; cases k2)]; exact k2⟩
end ready2
include hC in
theorem any_step {D : Nat → Bool} {p q : Nat} {w : World} {B : BM} {a : Act} (I : Inv n N ops bits st xs rv F D p q w B a) {i : Nat} {o : Oper} (ho : ops[i]? = some o) (hi : D i = false) (he : ∀ e ∈ edgesOf o, D e = true) {K : Act → World → Prop}
    (hK : ∀ a' w' B' p' q', Inv n N ops bits st xs rv F (more D i) p' q' w' B' a' → Ext w B w' B' → a'.defers = a.defers → K a' w') : wpOp P ops Q i K a w := by
  have hiN := at_lt R ho
  have hlook : ∀ t ∈ o.looksAt ops, edv ops (st 0).env xs D N t = eget (st i).env t := fun t ht => look R I.clos ho hi he ht
  obtain ⟨ρ, hρd⟩ : ∃ ρ : Operand → AV, ρ = fun x => match x with | .tmp t => edv ops (st 0).env xs D N t | y => aeval [] y := ⟨_, rfl⟩
  have hρ : ∀ x, VR w (Forb F B) B (ρ x) (a.eval x) := by
    intro x
    subst hρd
    cases x with
    | tmp t => exact I.env t
    | const v => exact VR.ofV v
    | global g => simp only [aeval, Act.eval, VR]
    | func f => simp only [aeval, Act.eval, VR]; exact ⟨#[], rfl, by simp only [VRL]⟩
  have hag : ∀ x ∈ o.op.operands, aeval (st i).env x = ρ x := by
    intro x hx
    subst hρd
    cases x with
    | tmp t => exact (hlook t (List.mem_append_left _ (List.mem_filterMap.2 ⟨.tmp t, by simpa using hx, rfl⟩))).symm
    | _ => rfl
  have hwant : ∀ b, awanted ops (st i).env o = some b → Region.wanted o (yielded ops a.tmps) = b := fun b hb => wanted_ok (fun t ht => by rw [← hlook t ht]; exact I.env t) hb
  simp only [wpOp, ho]
  cases hrv : rv i with
  | some e =>
    obtain ⟨b0, x0⟩ := e
    obtain ⟨o', t, ho', hop, hg, hx, hh, hbits, ha⟩ := R.rsv i _ hrv
    rw [ho] at ho'
    cases ho'
    obtain ⟨hB0, hq0⟩ := I.rsv i b0 x0 hrv hi
    have hlt0 : b0 < (st q).heap.length := by rcases Nat.lt_or_ge b0 (st q).heap.length with h' | h'; exact h'; rw [List.getElem?_eq_none h'] at hq0; cases hq0
    have hlen : ((st q).heap.take b0).length = b0 := by rw [List.length_take]; omega
    have htk : ∀ (b : Nat) (x : Blk), ((st q).heap.take b0)[b]? = some x → (st q).heap[b]? = some x := fun b x h => by
      rw [List.getElem?_take] at h
      split at h
      · exact h
      · cases h
    rw [hwant true (by unfold awanted; rw [hg]), if_pos rfl]
    left
    have hk := aop_sound (P := P) (H := (st q).heap.take b0) (fun b g v c blk hb hk => I.hr.weak b g v c blk hb (htk b blk hk)) hρ (ha _ ρ hlen)
    obtain ⟨v, w', B', hrun, hX, hR', hv, hn, hno⟩ := made_sound (Hb := (st q).heap) (Hb' := (st q).heap) hk (by rw [hlen]; exact hB0) I.hr (by rw [hlen]; exact hq0) (fun _ _ _ => rfl) htk
    simp only [Oper.wp, hrun, Oper.upon]
    rw [hlen] at hn hno
    obtain ⟨I', hd⟩ := inv_rsv R I ho hi he hrv hX hR' (by rw [hx]; exact hv) hn hno
    exact hK _ _ _ _ _ I' hX hd
  | none =>
  have hval := R.val i o ho hrv
  unfold aval at hval
  split at hval <;> try (cases hval; done)
  · rename_i hw
    rw [hwant _ hw, if_pos rfl]
    left
    have hval2 : acallH P (acall mode true call0) (st i).heap ρ o = some (xs i, (st (i + 1)).heap) := by
      rw [← hval]
      unfold acallH aopH
      rw [aop_congr (P := P) (H := (st i).heap) hag]
      cases hop : o.op with
      | call c =>
        have : callee (aeval (st i).env) c = callee ρ c := callee_congr (fun x hx => hag x (by rw [hop]; exact hx))
        simp only [this]
      | _ => rfl
    cases hm : (bits i).2 with
    | true =>
      have hiq := pos_of_mod R I ho hi he hm
      by_cases hnr : ∀ k, rv k = none
      · have hF := full_q R I ho hi he hm hnr
        rw [← hiq] at hF
        refine call_ok (acall_ok hC true) hval2 hρ (by rw [hiq]; exact I.hr) hF (fun v w' B' hX hR' hF' hv => ?_)
        obtain ⟨⟨p', q', I'⟩, hd⟩ := inv_mod R I ho hi he hm hX hR' (fun b hb => .inl (hF' b hb)) (fun k b x hk => by rw [hnr k] at hk; cases hk) hv
        exact hK _ _ _ _ _ I' hX hd
      · obtain ⟨k0, e0, hk0⟩ : ∃ k e, rv k = some e := Classical.byContradiction fun h => hnr fun k => by
          cases hk : rv k with
          | none => rfl
          | some e => exact absurd ⟨k, e, hk⟩ h
        have hplain : aopH P (st i).heap ρ o = some (xs i, (st (i + 1)).heap) := by
          unfold acallH at hval2
          split at hval2
          · rename_i c hop
            obtain ⟨b, hb⟩ := R.rcall k0 e0 hk0 i o c ho hm hop
            have : callee ρ c = none := by unfold callee; rw [hb]
            rw [this] at hval2
            exact hval2
          · exact hval2
        have hF0 := full_q0 R I ho hi he hm
        rw [← hiq] at hF0
        have hRi : HR w F B (st i).heap := by rw [hiq]; exact I.hr
        refine plain_ok hplain hρ hRi (fun v w' B' hX hR' h1 h2 hv => ?_)
        obtain ⟨⟨p', q', I'⟩, hd⟩ := inv_mod R I ho hi he hm hX hR' (fun b hb => by
          rcases Nat.lt_or_ge b (st i).heap.length with hl | hl
          · refine (hF0 b hl).imp (fun ⟨⟨g, v1, c1⟩, e⟩ => ?_) id
            obtain ⟨g', v', c', e', _⟩ := hX.vers b g v1 c1 e
            exact ⟨_, e'⟩
          · exact .inl (h2 b hl hb)) (fun k b x hk hdk => by
          obtain ⟨r1, r2⟩ := I.rsv k b x hk hdk
          rw [← hiq] at r2
          obtain ⟨r3, r4⟩ := h1 b r1 (R.rlt k b x hk i (Nat.le_of_lt hiN))
          exact ⟨r3, by rw [r4]; exact r2⟩) hv
        exact hK _ _ _ _ _ I' hX hd
    | false =>
      have hsub : (bits i).1 = true → HRw w F B (st i).heap ∧ ∃ l, (st q).heap = (st (i + 1)).heap ++ l := by
        intro ht
        obtain ⟨hp1, hp2⟩ := pos_of_quiet R I ho hi he hm ht
        obtain ⟨l, hl⟩ := heap_pre R I.seg I.qN (q - i) i hp1 (by omega)
        rw [show i + (q - i) = q by omega] at hl
        obtain ⟨l', hl'⟩ := heap_pre R I.seg I.qN (q - (i + 1)) (i + 1) (by omega) (by omega)
        rw [show i + 1 + (q - (i + 1)) = q by omega] at hl'
        refine ⟨fun b g v c blk hb hk => I.hr.weak b g v c blk hb ?_, l', hl'⟩
        rw [hl, List.getElem?_append_left (by rcases Nat.lt_or_ge b (st i).heap.length with h' | h'; exact h'; rw [List.getElem?_eq_none h'] at hk; cases hk)]
        exact hk
      have same : (st (i + 1)).heap = (st i).heap → ∀ {w' : World} {v : Value}, Ext w B w' B → HR w' F B (st q).heap → VR w' (Forb F B) B (xs i) v → K (a.put o.dst v) w' := by
        intro e w' v hX hR' hv
        obtain ⟨I', hd⟩ := inv_quiet R I ho hi he hm hrv hX hR' hv (fun b h1 h2 => by rw [e] at h2; omega) (fun b _ => rfl)
        exact hK _ _ _ _ _ I' hX hd
      have plain : aopH P (st i).heap ρ o = some (xs i, (st (i + 1)).heap) → o.wp P a w K Q := by
        intro h
        unfold aopH at h
        split at h <;> try (cases h; done)
        · rename_i y hr
          injection h with h; injection h with h1 h2
          subst h1
          have hv : ValOk P w F B a o (xs i) := by
            cases ht : (bits i).1 with
            | true => exact aop_sound (hsub ht).1 hρ hr
            | false =>
              have hf := R.free i o ho hrv ht hw _ (by rw [aop_congr (P := P) hag]; exact hr) (st q).heap
              rw [aop_congr (P := P) hag] at hf
              exact aop_sound I.hr.weak hρ hf
          obtain ⟨v, hrun, hv⟩ := hv
          simp only [Oper.wp, hrun, Oper.upon]
          exact same h2.symm (Ext.refl w B) I.hr hv
        · rename_i y blk hr
          injection h with h; injection h with h1 h2
          subst h1
          have ht := (R.quiet i o ho hrv hm hw).2.2 (xs i) blk (by rw [aop_congr (P := P) hag]; exact hr)
          obtain ⟨hp1, hp2⟩ := pos_of_quiet R I ho hi he hm ht
          obtain ⟨hw2, l, hl⟩ := hsub ht
          have hlen : (st (i + 1)).heap.length = (st i).heap.length + 1 := by rw [← h2]; simp
          have hfresh : B (st i).heap.length = none := (I.new i hp1 hp2 _ (Nat.le_refl _) (by omega)).2 hi
          obtain ⟨v, w', B', hrun, hX, hR', hv, hn, hno⟩ := made_sound (H := (st i).heap) (Hb := (st q).heap) (Hb' := (st q).heap) (aop_sound hw2 hρ hr) hfresh I.hr (by rw [hl, ← h2]; simp) (fun _ _ _ => rfl) (fun b x hbx => by
            rw [hl, ← h2, List.append_assoc, List.getElem?_append_left (List.getElem?_eq_some_iff.1 hbx).1]
            exact hbx)
          simp only [Oper.wp, hrun, Oper.upon]
          obtain ⟨I', hd⟩ := inv_quiet R I ho hi he hm hrv hX hR' hv (fun b h1 h2 => by
            have : b = (st i).heap.length := by omega
            subst this; exact hn) (fun b hb => hno b (fun e => hb ⟨by omega, by omega⟩))
          exact hK _ _ _ _ _ I' hX hd
        · rename_i y j blk hr
          exact absurd hr (by rw [← aop_congr (P := P) hag]; exact (R.quiet i o ho hrv hm hw).2.1 y j blk)
      unfold acallH at hval2
      split at hval2
      · rename_i c hop
        split at hval2
        · rename_i f args hcal
          obtain ⟨y, caps, hc, hx, hv⟩ := callee_ok hρ hcal
          have hcal' : callee (aeval (st i).env) c = some (f, args) := by rw [callee_congr (fun x hx => hag x (by rw [hop]; exact hx))]; exact hcal
          obtain ⟨hpf, ht⟩ := (R.quiet i o ho hrv hm hw).1 c f args hop hcal'
          split at hval2
          · rename_i r0 hr0
            injection hval2 with hval2
            subst hval2
            obtain ⟨e, hent, hok⟩ := acall_pure hC hpf hr0
            simp only [Oper.wp, run_enter hop hc hx hent, Oper.upon]
            have := hok w F B _ (st q).heap I.hr (hsub ht).1 hv
            rw [Array.toArray_toList] at this
            refine this.mono ?_
            rintro e' w' ⟨v, rfl, hX, hR', hr⟩
            exact same e hX hR' hr
          · obtain ⟨y', hy', e⟩ := Option.map_eq_some_iff.1 hval2
            injection e with e1 e2
            subst e1
            obtain ⟨v, hrun, hv⟩ := ext_ok (P := P) hop hc hx hv hy'
            simp only [Oper.wp, hrun, Oper.upon]
            exact same e2.symm (Ext.refl w B) I.hr hv
        · exact plain hval2
      · exact plain hval2
  · rename_i hw
    rw [hwant _ hw, if_neg (by simp)]
    injection hval with hval; injection hval with h1 h2
    have hv : VR w (Forb F B) B (xs i) undef := by rw [← h1]; simp only [VR]
    cases hm : (bits i).2 with
    | true =>
      have hiq := pos_of_mod R I ho hi he hm
      have hF := full_q0 R I ho hi he hm
      obtain ⟨⟨p', q', I'⟩, hd⟩ := inv_mod R I ho hi he hm (Ext.refl w B) (by rw [← h2, hiq]; exact I.hr) (by rw [← h2, hiq]; exact hF) (fun k b x hk hdk => by rw [← h2, hiq]; exact I.rsv k b x hk hdk) hv
      exact hK _ _ _ _ _ I' (Ext.refl w B) hd
    | false =>
      obtain ⟨I', hd⟩ := inv_quiet R I ho hi he hm hrv (Ext.refl w B) I.hr hv (fun b k1 k2 => by rw [← h2] at k2; omega) (fun b _ => rfl)
      exact hK _ _ _ _ _ I' (Ext.refl w B) hd
end draw
end Go.Proofs.YtpgipdajinkdgaaGreatA
