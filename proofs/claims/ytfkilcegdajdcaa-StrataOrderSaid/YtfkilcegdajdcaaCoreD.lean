/- comps.Comps and comps.Reach as plain functions: what they come to. -/
import Derived.Test.YtfkilcegdajdcaaPZx3
import Derived.Test.YtfkilcegdajdcaaCoreC
namespace Go.Proofs.Ytfkilcegdajdcaa.Core
open Go.RowKit Go.Proofs.Ytfkilcegdajdcaa.PZ Go.Proofs.YtfkilcegdajdcaaW.PrintWords Go.Proofs.YtfkilcegdajdcaaW.PrintLast Go.Proofs.YtfkilcegdajdcaaW.PrintMore
set_option linter.unusedVariables false
section
variable {N : Nat} {l : List S53} {g : List Int} {gs : List (List Int)} {ld : List Nat}
theorem G4.step (h : G2 N l N g gs ld) {num : List Int} {m : Nat} (hn : G4 N l g ld m num) (q : Nat) (hq : q < ld.length) (hm : rd num (q : Int) = -1)
    (hf : ∀ k, k < N → R (Edge N l) ld[q] k → rd g (k : Int) = q ∨ 0 ≤ nof g num k)
    (hl : ∀ p (hp : p < ld.length), p < q → 0 ≤ rd num (p : Int) ∨ ∃ k, k < N ∧ R (Edge N l) ld[p] k ∧ rd g (k : Int) ≠ p ∧ nof g num k < 0) : G4 N l g ld (m + 1) (num.set q m) := by
  have hnl := hn.nlen
  have hrd : ∀ i : Nat, rd (num.set q m) (i : Int) = if i = q then (m : Int) else rd num i := fun i => rd_set _ _ _ _ (by omega)
  have hno : ∀ k, k < N → nof g (num.set q m) k = if rd g (k : Int) = q then (m : Int) else nof g num k := by
    intro k hk
    obtain ⟨p, hp, e, _⟩ := h.all k hk
    unfold nof
    rw [e, hrd]
    by_cases e2 : p = q
    · rw [if_pos e2, if_pos (by omega)]
    · rw [if_neg e2, if_neg (by omega)]
  have hnb : ∀ k, k < N → nof g num k < m := by
    intro k hk
    obtain ⟨p, hp, e, _⟩ := h.all k hk
    unfold nof
    rw [e]
    rcases hn.rng p hp with h1 | h1 <;> omega
  have hnq : ∀ k, k < N → rd g (k : Int) = q → nof g num k = -1 := by
    intro k hk e
    unfold nof
    rw [e]
    exact hm
  refine ⟨by rw [List.length_set]; exact hnl, ?_, ?_, ?_, ?_, ?_, ?_⟩
  · intro i hi
    rw [hrd]
    by_cases e : i = q
    · rw [if_pos e]; exact .inr ⟨by omega, by omega⟩
    · rw [if_neg e]
      rcases hn.rng i hi with h1 | h1
      · exact .inl h1
      · exact .inr ⟨h1.1, by omega⟩
  · intro a b ha hb h0 he
    rw [hrd, hrd] at he
    rw [hrd] at h0
    by_cases e1 : a = q
    · by_cases e2 : b = q
      · omega
      · rw [if_pos e1, if_neg e2] at he
        rcases hn.rng b hb with h1 | h1 <;> omega
    · rw [if_neg e1] at he h0
      by_cases e2 : b = q
      · rw [if_pos e2] at he
        rcases hn.rng a ha with h1 | h1 <;> omega
      · rw [if_neg e2] at he
        exact hn.inj a b ha hb h0 he
  · intro x h0 hx
    by_cases e : x = m
    · exact ⟨q, hq, by rw [hrd, if_pos rfl, e]⟩
    · obtain ⟨i, hi, hix⟩ := hn.sur x h0 (by omega)
      exact ⟨i, hi, by rw [hrd, if_neg (by intro e'; subst e'; omega)]; exact hix⟩
  · have := count_setI num q m (by omega) hm (by omega)
    have := hn.cnt
    omega
  · intro i hi h0 k hk hr
    rw [hrd] at h0 ⊢
    rw [hno k hk]
    by_cases e : i = q
    · subst e
      rw [if_pos rfl]
      rcases hf k hk hr with h1 | h1
      · exact .inl h1
      · by_cases e2 : rd g (k : Int) = i
        · exact .inl e2
        · rw [if_neg e2]
          exact .inr ⟨h1, hnb k hk⟩
    · rw [if_neg e] at h0 ⊢
      rcases hn.ok i hi h0 k hk hr with h1 | h1
      · exact .inl h1
      · by_cases e2 : rd g (k : Int) = q
        · have := hnq k hk e2; omega
        · rw [if_neg e2]
          exact .inr h1
  · intro i hi h0 p hp hpi
    rw [hrd] at h0
    by_cases e : i = q
    · subst e
      rw [hrd i, if_pos rfl, hrd p, if_neg (by omega)]
      rcases hl p hp hpi with h1 | ⟨k, hk, h1, h2, h3⟩
      · rcases hn.rng p hp with h4 | h4
        · omega
        · exact .inl h4
      · refine .inr ⟨k, hk, h1, h2, ?_⟩
        rw [hno k hk]
        by_cases e2 : rd g (k : Int) = i
        · rw [if_pos e2]; omega
        · rw [if_neg e2]; omega
    · rw [if_neg e] at h0
      rw [hrd i, if_neg e]
      rcases hn.rng i hi with h4 | h4
      · omega
      · rcases hn.least i hi h0 p hp hpi with h1 | ⟨k, hk, h1, h2, h3⟩
        · left
          rw [hrd p, if_neg (by intro e'; subst e'; omega)]
          exact h1
        · refine .inr ⟨k, hk, h1, h2, ?_⟩
          rw [hno k hk]
          by_cases e2 : rd g (k : Int) = q
          · rw [if_pos e2]; omega
          · rw [if_neg e2]; exact h3
theorem number_ev (hN : N ≤ 1000) (h : G2 N l N g gs ld) (P : List Int → Prop)
    (done : ∀ num, G4 N l g ld ld.length num → ∃ r, Ev (fun k => comps_Comps.l4 k N ld.length ld.length (adj false N l l.length) g gs num) r ∧ P r) (d : Nat) :
    ∀ (m : Nat) num, m ≤ ld.length → ld.length - m = d → G4 N l g ld m num → ∃ r, Ev (fun k => comps_Comps.l4 k N ld.length m (adj false N l l.length) g gs num) r ∧ P r := by
  induction d with
  | zero =>
    intro m num hm hd hn
    obtain rfl : m = ld.length := by omega
    exact done num hn
  | succ d ih =>
    intro m num hm hd hn
    have hgsl := h.gslen
    have hmany := h.many
    have hcnt := hn.cnt
    have hnl := hn.nlen
    have hwm := Aside0.mk (show wrap64 ((m : Int) + 1) = ((m + 1 : Nat) : Int) by rw [wrap_id (by omega) (by omega)]; rfl)
    obtain ⟨q0, hq0, hm0⟩ := count_pos num (by omega)
    obtain ⟨q1, hq1, hm1, hf1⟩ := some_free h hn _ q0 (by omega) hm0 rfl
    have pick : ∀ d' p, p ≤ q1 → q1 - p = d' → (∀ p' (hp : p' < ld.length), p' < p → 0 ≤ rd num (p' : Int) ∨ ∃ k, k < N ∧ R (Edge N l) ld[p'] k ∧ rd g (k : Int) ≠ p' ∧ nof g num k < 0) →
        ∃ r, Ev (fun k => comps_Comps.l5 k N m ld.length m gs.length p (adj false N l l.length) g gs num) r ∧ P r := by
      intro d'
      induction d' with
      | zero =>
        intro p hp hd' hbef
        obtain rfl : p = q1 := by omega
        obtain ⟨b, hb, hbi⟩ := free_ev hN h hn p hq1
        have hbt := hbi.2 ⟨hm1, hf1⟩
        obtain ⟨r, hr, hP⟩ := ih (m + 1) _ (by omega) (by omega) (G4.step h hn p hq1 hm1 hf1 hbef)
        refine ⟨r, Ev.step (fun k => ?_) hr, hP⟩
        simp only [comps_Comps.l5]
        rw [if_pos (by omega), hb, hbt]
        simp only [Option.bind_some]
        rw [if_pos trivial, if_pos (by omega), if_pos (by omega), hwm.out, Int.toNat_natCast]
      | succ d' ihd =>
        intro p hp hd' hbef
        have hpl : p < ld.length := by omega
        have hwp := Aside0.mk (show wrap64 ((p : Int) + 1) = ((p + 1 : Nat) : Int) by rw [wrap_id (by omega) (by omega)]; rfl)
        obtain ⟨b, hb, hbi⟩ := free_ev hN h hn p hpl
        cases b with
        | true =>
          obtain ⟨e1, e2⟩ := hbi.1 rfl
          obtain ⟨r, hr, hP⟩ := ih (m + 1) _ (by omega) (by omega) (G4.step h hn p hpl e1 e2 hbef)
          refine ⟨r, Ev.step (fun k => ?_) hr, hP⟩
          simp only [comps_Comps.l5]
          rw [if_pos (by omega), hb]
          simp only [Option.bind_some]
          rw [if_pos trivial, if_pos (by omega), if_pos (by omega), hwm.out, Int.toNat_natCast]
        | false =>
          have hnf := Aside0.mk (show 0 ≤ rd num (p : Int) ∨ ∃ k, k < N ∧ R (Edge N l) ld[p] k ∧ rd g (k : Int) ≠ p ∧ nof g num k < 0 by
            by_cases e : rd num (p : Int) = -1
            · right
              have : ¬ ∀ k, k < N → R (Edge N l) ld[p] k → rd g (k : Int) = p ∨ 0 ≤ nof g num k := fun hall => by have := hbi.2 ⟨e, hall⟩; cases this
              obtain ⟨k, hk⟩ := Classical.not_forall.1 this
              obtain ⟨hkN, hk⟩ := Classical.not_imp.1 hk
              obtain ⟨hr, hk⟩ := Classical.not_imp.1 hk
              exact ⟨k, hkN, hr, fun e => hk (.inl e), Int.not_le.1 fun e => hk (.inr e)⟩
            · left
              rcases hn.rng p hpl with h1 | h1 <;> omega)
          obtain ⟨r, hr, hP⟩ := ihd (p + 1) (by omega) (by omega) (fun p' hp' hlt => by
            by_cases e : p' = p
            · subst e; exact hnf.out
            · exact hbef p' hp' (by omega))
          refine ⟨r, Ev.step (fun k => ?_) hr, hP⟩
          simp only [comps_Comps.l5]
          rw [if_pos (by omega), hb]
          simp only [Option.bind_some]
          rw [if_neg (by simp), hwp.out]
    obtain ⟨r, hr, hP⟩ := pick _ 0 (by omega) rfl (fun p' _ h' => by omega)
    refine ⟨r, Ev.step (fun k => ?_) hr, hP⟩
    simp only [comps_Comps.l4]
    rw [if_pos (by omega)]
    rfl
theorem G4.good (h : G2 N l N g gs ld) {num : List Int} (hn : G4 N l g ld ld.length num) : Good N (Edge N l) (fun i => nof g num i) := by
  have hcnt := hn.cnt
  have hnl := hn.nlen
  have hpos : ∀ q, q < ld.length → 0 ≤ rd num (q : Int) := by
    intro q hq
    rcases hn.rng q hq with h1 | h1
    · exfalso
      have hmem : (-1 : Int) ∈ num := by
        rw [← h1, rd_at _ _ (by omega)]
        exact List.getElem_mem _
      have := List.count_pos_iff.2 hmem
      omega
    · exact h1.1
  have hof : ∀ i, i < N → ∀ q, rd g (i : Int) = (q : Nat) → nof g num i = rd num (q : Int) := fun i hi q e => by unfold nof; rw [e]
  refine ⟨?_, ?_, ?_, ?_⟩
  · intro i j hi hj
    obtain ⟨p, hp, e1, _⟩ := h.all i hi
    obtain ⟨q, hq, e2, _⟩ := h.all j hj
    show nof g num i = nof g num j ↔ _
    rw [hof i hi p e1, hof j hj q e2, ← h.one i j hi hj, e1, e2]
    constructor
    · intro e; have := hn.inj p q hp hq (hpos p hp) e; omega
    · intro e; have : p = q := by omega
      rw [this]
  · intro i hi
    obtain ⟨p, hp, e1, _⟩ := h.all i hi
    show 0 ≤ nof g num i
    rw [hof i hi p e1]
    exact hpos p hp
  · intro i hi
    obtain ⟨q, hq, e1, m1⟩ := h.all i hi
    obtain ⟨hb1, hb2, hb3⟩ := h.ldr q hq
    have hi' : nof g num i = rd num (q : Int) := hof i hi q e1
    have hb' : nof g num ld[q] = rd num (q : Int) := hof _ hb2 q hb3
    refine ⟨ld[q], hb2, by show nof g num ld[q] = nof g num i; rw [hi', hb'], ⟨by show nof g num i ≤ nof g num ld[q]; rw [hi', hb']; exact Int.le_refl _, ?_⟩, ?_⟩
    · intro k hk hr
      show R _ k _ ∨ nof g num k < nof g num i
      rw [hi']
      rcases hn.ok q hq (hpos q hq) k hk hr with h1 | h1
      · exact .inl ((h.one _ _ hb2 hk).1 (by rw [hb3, h1])).2
      · exact .inr h1.2
    · intro j hj hfr
      have hjN : j < N := by omega
      obtain ⟨p, hp, e2, m2⟩ := h.all j hjN
      have hle := h.fst p hp j hjN m2.symm
      have hpq : p < q := by
        refine Nat.lt_of_not_le fun hqp => ?_
        by_cases e : q = p
        · subst e; omega
        · have := h.asc q p hq hp (by omega)
          omega
      obtain ⟨hf1, hf2⟩ := hfr
      have hf1' : nof g num i ≤ nof g num j := hf1
      rw [hi', hof j hjN p e2] at hf1'
      rcases hn.least q hq (hpos q hq) p hp hpq with h1 | ⟨k, hk, h1, h2, h3⟩
      · omega
      · rcases hf2 k hk (m2.2.trans h1) with h4 | h4
        · have := (h.one j k hjN hk).2 ⟨m2.2.trans h1, h4⟩
          exact h2 (by rw [← this, e2])
        · have h4' : nof g num k < nof g num i := h4
          rw [hi'] at h4'
          obtain ⟨x, hx, ex, _⟩ := h.all k hk
          have := hpos x hx
          rw [← hof k hk x ex] at this
          exact h3 ⟨this, h4'⟩
  · intro i hi m h0 hlt
    obtain ⟨q, hq, e1, _⟩ := h.all i hi
    have hlt' : m < nof g num i := hlt
    rw [hof i hi q e1] at hlt'
    have hb : rd num (q : Int) < ld.length := by rcases hn.rng q hq with h1 | h1 <;> omega
    obtain ⟨x, hx, ex⟩ := hn.sur m h0 (by omega)
    obtain ⟨_, hb2, hb3⟩ := h.ldr x hx
    exact ⟨ld[x], hb2, by show nof g num ld[x] = m; rw [hof _ hb2 x hb3, ex]⟩
end
end Go.Proofs.Ytfkilcegdajdcaa.Core

namespace Go.Proofs.Ytfkilcegdajdcaa.Core
open Go.RowKit Go.Proofs.Ytfkilcegdajdcaa.PZ Go.Proofs.YtfkilcegdajdcaaW.PrintWords Go.Proofs.YtfkilcegdajdcaaW.PrintLast Go.Proofs.YtfkilcegdajdcaaW.PrintMore
set_option linter.unusedVariables false
theorem held_ev (N : Nat) (hN : N ≤ 1000) : comps_held.f (N : Int) = some (N : Int) := by
  unfold comps_held.f
  congr 1
  unfold mx mn
  split <;> split <;> omega
theorem Good.ext {N : Nat} {E : Nat → Nat → Prop} {f g : Nat → Int} (he : ∀ i, i < N → f i = g i) (hf : Good N E f) : Good N E g := by
  have fr : ∀ j, j < N → ∀ m, (Free N E f j m ↔ Free N E g j m) := by
    intro j hj m
    unfold Free
    rw [he j hj]
    constructor
    · rintro ⟨h1, h2⟩; exact ⟨h1, fun k hk hr => (h2 k hk hr).imp id fun h => by rw [← he k hk]; exact h⟩
    · rintro ⟨h1, h2⟩; exact ⟨h1, fun k hk hr => (h2 k hk hr).imp id fun h => by rw [he k hk]; exact h⟩
  refine ⟨fun i j hi hj => by rw [← he i hi, ← he j hj]; exact hf.cls i j hi hj, fun i hi => by rw [← he i hi]; exact hf.nn i hi, fun i hi => ?_, fun i hi m h0 h1 => ?_⟩
  · obtain ⟨b, hb, h1, h2, h3⟩ := hf.first i hi
    exact ⟨b, hb, by rw [← he b hb, ← he i hi]; exact h1, by rw [← he i hi]; exact (fr b hb _).1 h2, fun j hj h => h3 j hj (by rw [he i hi]; exact (fr j (by omega) _).2 h)⟩
  · rw [← he i hi] at h1
    obtain ⟨j, hj, e⟩ := hf.full i hi m h0 h1
    exact ⟨j, hj, by rw [← he j hj]; exact e⟩
section
variable {N : Nat} {l : List S53} {g : List Int} {gs : List (List Int)} {ld : List Nat}
theorem out_ev (hN : N ≤ 1000) (h : G2 N l N g gs ld) {num : List Int} (hnl : num.length = ld.length) (d : Nat) :
    ∀ (i : Nat) (out : List Int), i ≤ N → N - i = d → out.length = N → (∀ j, j < i → rd out (j : Int) = nof g num j) →
      ∃ r, Ev (fun k => comps_Comps.l6 k out g N i num) r ∧ r.length = N ∧ ∀ j, j < N → rd r (j : Int) = nof g num j := by
  induction d with
  | zero =>
    intro i out hi hd ho hv
    obtain rfl : i = N := by omega
    refine ⟨out, Ev.step (f := fun _ => some out) (fun k => ?_) (Ev.now out), ho, hv⟩
    simp only [comps_Comps.l6]
    rw [if_neg (by omega)]
  | succ d ih =>
    intro i out hi hd ho hv
    have hgl := h.glen
    obtain ⟨q, hq, e, _⟩ := h.all i (by omega)
    have hw := Aside0.mk (show wrap64 ((i : Int) + 1) = ((i + 1 : Nat) : Int) by rw [wrap_id (by omega) (by omega)]; rfl)
    obtain ⟨r, hr, hP⟩ := ih (i + 1) (out.set i (rd num (rd g (i : Int)))) (by omega) (by omega) (by rw [List.length_set]; exact ho) (by
      intro j hj
      rw [rd_set _ _ _ _ (by omega)]
      by_cases e2 : j = i
      · subst e2; rw [if_pos rfl]; rfl
      · rw [if_neg e2]; exact hv j (by omega))
    refine ⟨r, Ev.step (fun k => ?_) hr, hP⟩
    simp only [comps_Comps.l6]
    rw [if_pos (by omega), if_pos (by omega), if_pos (by omega), if_pos (by omega), if_pos (by omega), if_pos (by omega), hw.out, Int.toNat_natCast]
theorem all_rep (xs : List Int) (M : Nat) (hl : xs.length = M) (h : ∀ j, j < M → rd xs (j : Int) = -1) : xs = List.replicate M (-1) := by
  rw [List.eq_replicate_iff]
  refine ⟨hl, fun b hb => ?_⟩
  obtain ⟨i, hi, rfl⟩ := List.getElem_of_mem hb
  rw [← rd_at]
  exact h i (by omega)
theorem G4.zero (h : G2 N l N g gs ld) : G4 N l g ld 0 (List.replicate ld.length (-1)) := by
  have hr : ∀ q, q < ld.length → rd (List.replicate ld.length (-1)) (q : Int) = -1 := fun q hq => rd_rep _ _ _ hq
  refine ⟨by simp, fun q hq => .inl (hr q hq), ?_, ?_, by simp, ?_, ?_⟩
  · intro p q hp hq h0; rw [hr p hp] at h0; omega
  · intro x h0 h1; omega
  · intro q hq h0; rw [hr q hq] at h0; omega
  · intro q hq h0; rw [hr q hq] at h0; omega
theorem ones_ev (hN : N ≤ 1000) (h : G2 N l N g gs ld) (P : List Int → Prop)
    (done : ∃ r, Ev (fun k => comps_Comps.l4 k N ld.length (0 : Nat) (adj false N l l.length) g gs (List.replicate ld.length (-1))) r ∧ P r) (d : Nat) :
    ∀ (i : Nat) (num : List Int), i ≤ ld.length → ld.length - i = d → num.length = ld.length → (∀ j, j < i → rd num (j : Int) = -1) →
      ∃ r, Ev (fun k => comps_Comps.l3 k N ld.length i (adj false N l l.length) g gs num) r ∧ P r := by
  induction d with
  | zero =>
    intro i num hi hd ho hv
    obtain rfl : i = ld.length := by omega
    obtain ⟨r, hr, hP⟩ := done
    have hgsl := h.gslen
    rw [← all_rep num _ ho hv] at hr
    refine ⟨r, Ev.step (fun k => ?_) hr, hP⟩
    simp only [comps_Comps.l3]
    rw [if_neg (by omega), hgsl]
    rfl
  | succ d ih =>
    intro i num hi hd ho hv
    have hmany := h.many
    have hw := Aside0.mk (show wrap64 ((i : Int) + 1) = ((i + 1 : Nat) : Int) by rw [wrap_id (by omega) (by omega)]; rfl)
    obtain ⟨r, hr, hP⟩ := ih (i + 1) (num.set i (-1)) (by omega) (by omega) (by rw [List.length_set]; exact ho) (by
      intro j hj
      rw [rd_set _ _ _ _ (by omega)]
      by_cases e2 : j = i
      · rw [if_pos e2]
      · rw [if_neg e2]; exact hv j (by omega))
    refine ⟨r, Ev.step (fun k => ?_) hr, hP⟩
    simp only [comps_Comps.l3]
    rw [if_pos (by omega), if_pos (by omega), if_pos (by omega), hw.out, Int.toNat_natCast]
theorem behind_ev (hN : N ≤ 1000) (h : G2 N l N g gs ld) : ∃ r, Ev (fun k => comps_Comps.l1 k N (adj true N l l.length) N N (adj false N l l.length) g gs) r ∧ Ok N (Edge N l) r := by
  have hgsl := h.gslen
  have hmany := h.many
  have hgl := h.glen
  have hnum : ∀ num, G4 N l g ld ld.length num → ∃ r, Ev (fun k => comps_Comps.l4 k N ld.length ld.length (adj false N l l.length) g gs num) r ∧ Ok N (Edge N l) r := by
    intro num hn
    have hnl := hn.nlen
    obtain ⟨r, hr, hl, hv⟩ := out_ev hN h hnl N 0 (List.replicate N 0) (by omega) (by omega) (by simp) (fun j hj => by omega)
    refine ⟨r, Ev.step (fun k => ?_) hr, hl, ?_⟩
    · simp only [comps_Comps.l4]
      rw [if_neg (by omega), if_pos (by omega), if_pos (by omega), hgl, Int.toNat_natCast]
      rfl
    · have hg := G4.good h hn
      have he : ∀ i, i < N → (fun i => nof g num i) i = (fun i : Nat => rd r (i : Int)) i := fun i hi => (hv i hi).symm
      exact Good.ext he hg
  obtain ⟨r, hr, hP⟩ := ones_ev hN h (Ok N (Edge N l)) (number_ev hN h (Ok N (Edge N l)) hnum _ 0 _ (by omega) rfl (G4.zero h)) _ 0 (List.replicate ld.length 0) (by omega) rfl (by simp) (fun j hj => by omega)
  refine ⟨r, Ev.step (fun k => ?_) hr, hP⟩
  simp only [comps_Comps.l1]
  rw [if_neg (by omega), if_pos (by omega), if_pos (by omega), hgsl, Int.toNat_natCast]
  simp only [Option.bind_some, List.length_replicate]
  rfl
theorem neg_ev (hN : N ≤ 1000) (P : List Int → Prop)
    (done : ∃ r, Ev (fun k => comps_Comps.l1 k N (adj true N l l.length) N (0 : Nat) (adj false N l l.length) (List.replicate N (-1)) []) r ∧ P r) (d : Nat) :
    ∀ (i : Nat) (g : List Int), i ≤ N → N - i = d → g.length = N → (∀ j, j < i → rd g (j : Int) = -1) →
      ∃ r, Ev (fun k => comps_Comps.l0 k N (adj true N l l.length) N i (adj false N l l.length) g) r ∧ P r := by
  induction d with
  | zero =>
    intro i num hi hd ho hv
    obtain rfl : i = N := by omega
    obtain ⟨r, hr, hP⟩ := done
    rw [← all_rep num _ ho hv] at hr
    refine ⟨r, Ev.step (fun k => ?_) hr, hP⟩
    simp only [comps_Comps.l0]
    rw [if_neg (by omega)]
    rfl
  | succ d ih =>
    intro i num hi hd ho hv
    have hw := Aside0.mk (show wrap64 ((i : Int) + 1) = ((i + 1 : Nat) : Int) by rw [wrap_id (by omega) (by omega)]; rfl)
    obtain ⟨r, hr, hP⟩ := ih (i + 1) (num.set i (-1)) (by omega) (by omega) (by rw [List.length_set]; exact ho) (by
      intro j hj
      rw [rd_set _ _ _ _ (by omega)]
      by_cases e2 : j = i
      · rw [if_pos e2]
      · rw [if_neg e2]; exact hv j (by omega))
    refine ⟨r, Ev.step (fun k => ?_) hr, hP⟩
    simp only [comps_Comps.l0]
    rw [if_pos (by omega), if_pos (by omega), if_pos (by omega), hw.out, Int.toNat_natCast]
end
theorem G2.zero (N : Nat) (l : List S53) : G2 N l 0 (List.replicate N (-1)) [] [] :=
  ⟨by simp, rfl, by simp, fun q hq => by simp at hq, fun p q hp => by simp at hp, fun p q hp => by simp at hp, fun k hk => .inl (rd_rep _ _ _ hk), fun k hk j hj => by omega, fun q hq => by simp at hq, fun q hq => by simp at hq, fun q hq => by simp at hq⟩
theorem Comps_ev (N : Nat) (hN : N ≤ 1000) (l : List S53) (hl : l.length ≤ 100000) : ∃ of, Ev (fun k => comps_Comps.f k N l) of ∧ Ok N (Edge N l) of := by
  obtain ⟨r, hr, hP⟩ := groups_ev hN hl (Ok N (Edge N l)) (fun g gs ld h => behind_ev hN h) N 0 _ [] [] (by omega) rfl (G2.zero N l)
  obtain ⟨r, hr, hP⟩ := neg_ev hN (Ok N (Edge N l)) ⟨r, hr, hP⟩ N 0 (List.replicate N 0) (by omega) rfl (by simp) (fun j hj => by omega)
  refine ⟨r, ?_, hP⟩
  unfold comps_Comps.f
  refine Ev.congr (f := fun k => (comps_lists.f k (N : Int) l false).bind fun t => (comps_lists.f k (N : Int) l true).bind fun u => comps_Comps.l0 k N u N 0 t (List.replicate N 0)) (fun k => ?_) ?_
  · rw [held_ev N hN]
    simp only [Option.bind_some]
    simp only [if_pos (show (0 : Int) ≤ (N : Int) by omega), if_pos (show N ≤ 35184372088832 by omega), Int.toNat_natCast, List.length_replicate]
  · refine Ev.bind (f := fun k t => (comps_lists.f k (N : Int) l true).bind fun u => comps_Comps.l0 k N u N 0 t (List.replicate N 0)) (Lists_ev false N hN l hl) ?_
    refine Ev.bind (f := fun k u => comps_Comps.l0 k N u N 0 (adj false N l l.length) (List.replicate N 0)) (Lists_ev true N hN l hl) ?_
    exact hr
end Go.Proofs.Ytfkilcegdajdcaa.Core
