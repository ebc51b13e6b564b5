/- CompsTell's pure statement: the components are numbered as the document numbers them, and a node reaches what it reaches; no condition beyond the statement's own. -/
import Derived.OpenShut
import Derived.Test.YtigpeemgnocdhaaPZx7
import Derived.Test.YtigpeemgnocdhaaCoreG
namespace Go.Proofs.Ytigpeemgnocdhaa.Pure
open Go.RowKit Go.Proofs.Ytigpeemgnocdhaa.PZ Go.Proofs.Ytigpeemgnocdhaa.Core Go.Proofs.YtigpeemgnocdhaaW.PrintWords Go.Proofs.YtigpeemgnocdhaaW.PrintLast Go.Proofs.YtigpeemgnocdhaaW.PrintMore
set_option linter.unusedVariables false
set_option linter.unusedSectionVars false

namespace tell
theorem awake_ev : Ev (fun k => antecedentlaw12_awake.f k) true := Ev.of (fun k => antecedentlaw12_awake.mono k) (k := 60) (by decide +kernel)

theorem same_from (xs ys : List Int) (hl : xs.length ≤ 100000) (he : xs.length = ys.length) (h : ∀ i, i < xs.length → rd xs (i : Int) = rd ys i) (d : Nat) : ∀ i, i ≤ xs.length → xs.length - i = d → Ev (fun k => antecedentlaw12_same.l0 k xs ys xs.length i) true := by
  induction d with
  | zero =>
    intro i hi hd
    refine Ev.step (f := fun _ => some true) (fun k => ?_) (Ev.now true)
    simp only [antecedentlaw12_same.l0]
    rw [if_neg (by omega)]
  | succ d ih =>
    intro i hi hd
    have hw := Aside0.mk (show wrap64 ((i : Int) + 1) = ((i + 1 : Nat) : Int) by rw [wrap_id (by omega) (by omega)]; rfl)
    refine Ev.step (fun k => ?_) (ih (i + 1) (by omega) (by omega))
    simp only [antecedentlaw12_same.l0]
    rw [if_pos (by omega), if_pos (by omega), if_pos (by omega), if_pos (by omega), if_pos (h i (by omega)), hw.out]
theorem same_ev (xs ys : List Int) (hl : xs.length ≤ 100000) (he : xs.length = ys.length) (h : ∀ i, i < xs.length → rd xs (i : Int) = rd ys i) : Ev (fun k => antecedentlaw12_same.f k xs ys) true := by
  unfold antecedentlaw12_same.f
  exact Ev.congr (fun k => if_pos (by omega)) (same_from xs ys hl he h _ 0 (by omega) rfl)

/-- Two rising lists of the same members are the same. -/
theorem rise_ext : ∀ (r1 r2 : List Int), r1.Pairwise (· < ·) → r2.Pairwise (· < ·) → (∀ y, y ∈ r1 ↔ y ∈ r2) → r1 = r2
  | [], [], _, _, _ => rfl
  | [], b :: t, _, _, h => by have := (h b).2 (by simp); simp at this
  | a :: s, [], _, _, h => by have := (h a).1 (by simp); simp at this
  | a :: s, b :: t, h1, h2, h => by
    have h1' := List.pairwise_cons.1 h1
    have h2' := List.pairwise_cons.1 h2
    have e : a = b := by
      have ha := (h a).1 (by simp)
      have hb := (h b).2 (by simp)
      rw [List.mem_cons] at ha hb
      rcases ha with ha | ha
      · exact ha
      · rcases hb with hb | hb
        · exact hb.symm
        · have := h1'.1 b hb
          have := h2'.1 a ha
          omega
    subst e
    rw [rise_ext s t h1'.2 h2'.2 fun y => by
      constructor
      · intro hy
        have h3 := h1'.1 y hy
        have := (h y).1 (by simp [hy])
        rw [List.mem_cons] at this
        rcases this with h4 | h4
        · omega
        · exact h4
      · intro hy
        have h3 := h2'.1 y hy
        have := (h y).2 (by simp [hy])
        rw [List.mem_cons] at this
        rcases this with h4 | h4
        · omega
        · exact h4]

theorem held_nat (a0 : Int) (h : a0 ≤ 1000) : comps_held.f a0 = comps_held.f (a0.toNat : Int) := by
  unfold comps_held.f
  congr 1
  unfold mx mn
  repeat' split
  all_goals omega

theorem mk_rep (N i : Nat) : ¬ Mk (List.replicate N false) i := by
  intro h
  unfold Mk at h
  rw [List.getD_eq_getElem?_getD, List.getElem?_replicate] at h
  split at h <;> simp at h

/-- Both reaches, from anywhere. -/
theorem both_ev (N : Nat) (hN : N ≤ 1000) (l : List S31) (hl : l.length ≤ 100000) (a0 : Int) (ha : a0.toNat = N ∧ a0 ≤ 1000) (s : Int) :
    ∃ b r, Ev (fun k => antecedentref12_Reached.f k a0 l s) b ∧ b.length = N ∧ Ev (fun k => comps_Reach.f k a0 l s) r ∧ (∀ y, y ∈ r ↔ (0 ≤ y ∧ y < N ∧ Mk b y.toNat)) ∧ r.length ≤ N ∧ r.Pairwise (· < ·) := by
  have hrf : ∀ k, comps_Reach.f k a0 l s = comps_Reach.f k (N : Int) l s := by
    intro k
    unfold comps_Reach.f
    rw [held_nat a0 ha.2, ha.1]
  by_cases hs : 0 ≤ s ∧ s < N
  · have hsc := Aside0.mk (show s = (s.toNat : Int) by omega)
    obtain ⟨b, hb, hbl, hbm⟩ := Reached_ev N hN l hl a0 ha s.toNat (by omega)
    obtain ⟨r, hr, hc⟩ := Reach_ev N hN l hl s.toNat (by omega)
    refine ⟨b, r, by rw [hsc.out]; exact hb, hbl, Ev.congr hrf (by rw [hsc.out]; exact hr), fun y => (hc.mem y).trans ?_, hc.len, hc.rise⟩
    constructor
    · rintro ⟨h1, h2, h3⟩; exact ⟨h1, h2, (hbm y.toNat (by omega)).2 h3⟩
    · rintro ⟨h1, h2, h3⟩; exact ⟨h1, h2, (hbm y.toNat (by omega)).1 h3⟩
  · have hs' : s < 0 ∨ (N : Int) ≤ s := by omega
    obtain ⟨r, hr, h1, h2, h3⟩ := collect_ev N hN (List.replicate N false) (by simp) N 0 [] (by omega) rfl (by intro y; simp; intro h1 h2; omega) (by simp) List.Pairwise.nil
    refine ⟨_, r, Reached_none N hN l a0 ha s hs', by simp, Ev.congr hrf ?_, h1, h2, h3⟩
    unfold comps_Reach.f
    refine Ev.congr (f := fun k => (comps_lists.f k (N : Int) l false).bind fun t => (comps_seen.f k t s).bind fun u => comps_Reach.l0 k [] u (u.length : Int) 0) (fun k => ?_) ?_
    · rw [held_ev N hN]; rfl
    · refine Ev.bind (f := fun k t => (comps_seen.f k t s).bind fun u => comps_Reach.l0 k [] u (u.length : Int) 0) (Lists_ev false N hN l hl) ?_
      have hsn := seen_none (adj false N l l.length) (by rw [adj_len]; exact hN) s (by rw [adj_len]; exact hs')
      rw [adj_len] at hsn
      refine Ev.bind (f := fun k u => comps_Reach.l0 k [] u (u.length : Int) 0) hsn ?_
      rw [List.length_replicate]; exact hr

theorem want_ev (N : Nat) (hN : N ≤ 1000) (l : List S31) (a0 s : Int) (b : List Bool) (hb : b.length = N)
    (done : ∀ w : List Int, (∀ y, y ∈ w ↔ (0 ≤ y ∧ y < N ∧ Mk b y.toNat)) → w.length ≤ N → w.Pairwise (· < ·) → Ev (fun k => antecedentlaw12_CompsTell.l0 k a0 l s b w N N) true) (d : Nat) :
    ∀ (i : Nat) (out : List Int), i ≤ N → N - i = d → (∀ y, y ∈ out ↔ (0 ≤ y ∧ y < i ∧ Mk b y.toNat)) → out.length ≤ i → out.Pairwise (· < ·) → Ev (fun k => antecedentlaw12_CompsTell.l0 k a0 l s b out N i) true := by
  induction d with
  | zero =>
    intro i out hi hd hm hl hp
    obtain rfl : i = N := by omega
    exact done out hm hl hp
  | succ d ih =>
    intro i out hi hd hm hl hp
    have hw := Aside0.mk (show wrap64 ((i : Int) + 1) = ((i + 1 : Nat) : Int) by rw [wrap_id (by omega) (by omega)]; rfl)
    by_cases e : Mk b i
    · have hr := ih (i + 1) (out ++ [(i : Int)]) (by omega) (by omega) (by
        intro y
        rw [List.mem_append, hm, List.mem_singleton]
        constructor
        · rintro (⟨h1, h2, h3⟩ | h1)
          · exact ⟨h1, by omega, h3⟩
          · subst h1; exact ⟨by omega, by omega, by rw [Int.toNat_natCast]; exact e⟩
        · rintro ⟨h1, h2, h3⟩
          by_cases e2 : y = i
          · exact .inr e2
          · exact .inl ⟨h1, by omega, h3⟩) (by simp; omega) (by
        rw [List.pairwise_append]
        refine ⟨hp, List.pairwise_singleton _ _, fun a ha c hc => ?_⟩
        rw [List.mem_singleton] at hc
        have := ((hm a).1 ha).2.1
        omega)
      refine Ev.step (fun k => ?_) hr
      simp only [antecedentlaw12_CompsTell.l0]
      rw [if_pos (by omega), if_pos (by omega), if_pos (by omega), if_pos ((rdOf_mk _ _).2 e), if_pos (by omega), hw.out]
    · have hr := ih (i + 1) out (by omega) (by omega) (by
        intro y
        rw [hm]
        constructor
        · rintro ⟨h1, h2, h3⟩; exact ⟨h1, by omega, h3⟩
        · rintro ⟨h1, h2, h3⟩
          refine ⟨h1, ?_, h3⟩
          by_cases e2 : y = i
          · subst e2; rw [Int.toNat_natCast] at h3; exact absurd h3 e
          · omega) (by omega) hp
      refine Ev.step (fun k => ?_) hr
      simp only [antecedentlaw12_CompsTell.l0]
      rw [if_pos (by omega), if_pos (by omega), if_pos (by omega), if_neg (fun h => e ((rdOf_mk _ _).1 h)), hw.out]

theorem tail_ev (a0 : Int) (l : List S31) (a : Int) (hl : l.length ≤ 100000) (h40 : a0 ≤ 1000) : Ev (fun k => antecedentlaw12_CompsTell.j0 k a0 l a false) true := by
  obtain ⟨N, hNe⟩ : ∃ N, a0.toNat = N := ⟨_, rfl⟩
  have hN : N ≤ 1000 := by omega
  have ha : a0.toNat = N ∧ a0 ≤ 1000 := ⟨hNe, h40⟩
  obtain ⟨b, r, hb, hbl, hr, hrm, hrl, hrp⟩ := both_ev N hN l hl a0 ha a
  obtain ⟨of, hof, ho⟩ := Comps_ev N hN l hl
  have hol := ho.1
  obtain ⟨of2, hof2, h2l, h2v⟩ := RComps_ev N hN l hl a0 ha of ho
  have hof' : Ev (fun k => comps_Comps.f k a0 l) of := by
    refine Ev.congr (fun k => ?_) hof
    unfold comps_Comps.f
    rw [held_nat a0 ha.2, ha.1]
  have hs1 := same_ev of of2 (by omega) (by omega) (fun i hi => (h2v i (by omega)).symm)
  refine Ev.step (f := fun k => (antecedentref12_Reached.f k a0 l a).bind fun t => antecedentlaw12_CompsTell.l0 k a0 l a t [] (t.length : Int) 0) (fun k => ?_) (Ev.bind (f := fun k t => antecedentlaw12_CompsTell.l0 k a0 l a t [] (t.length : Int) 0) hb ?_)
  · simp only [antecedentlaw12_CompsTell.j0]
    rw [if_neg (by simp)]
  · rw [hbl]
    refine want_ev N hN l a0 a b hbl (fun w hwm hwl hwp => ?_) N 0 [] (by omega) rfl (by intro y; simp; intro h1 h2; omega) (by simp) List.Pairwise.nil
    have hrw : r = w := rise_ext r w hrp hwp fun y => (hrm y).trans (hwm y).symm
    have hs2 := same_ev r w (by omega) (by rw [hrw]) (fun i hi => by rw [hrw])
    refine Ev.step (f := fun k => (comps_Comps.f k a0 l).bind fun t => (antecedentref12_Comps.f k a0 l).bind fun u => (antecedentlaw12_same.f k t u).bind fun v => if v = true then (comps_Reach.f k a0 l a).bind fun x => (antecedentlaw12_same.f k x w).bind fun y => some y else some false) (fun k => ?_)
      (Ev.bind (f := fun k t => (antecedentref12_Comps.f k a0 l).bind fun u => (antecedentlaw12_same.f k t u).bind fun v => if v = true then (comps_Reach.f k a0 l a).bind fun x => (antecedentlaw12_same.f k x w).bind fun y => some y else some false) hof'
        (Ev.bind (f := fun k u => (antecedentlaw12_same.f k of u).bind fun v => if v = true then (comps_Reach.f k a0 l a).bind fun x => (antecedentlaw12_same.f k x w).bind fun y => some y else some false) hof2
          (Ev.bind (f := fun k v => if v = true then (comps_Reach.f k a0 l a).bind fun x => (antecedentlaw12_same.f k x w).bind fun y => some y else some false) hs1
            (Ev.congr (f := fun k => (comps_Reach.f k a0 l a).bind fun x => (antecedentlaw12_same.f k x w).bind fun y => some y) (fun k => if_pos rfl)
              (Ev.bind (f := fun k x => (antecedentlaw12_same.f k x w).bind fun y => some y) hr (Ev.bind (f := fun _ y => some y) hs2 (Ev.now true)))))))
    simp only [antecedentlaw12_CompsTell.l0]
    rw [if_neg (by omega)]
end tell

theorem CompsTell (a0 : Int) (l : List S31) (a : Int) (h0 : (Lit.int .i64 a0).wf = true) (h1 : ∀ x ∈ l, (Lit.int .i64 x.f0).wf = true ∧ (Lit.int .i64 x.f1).wf = true) (h2 : (Lit.int .i64 a).wf = true) :
    ∃ k, antecedentlaw12_CompsTell.f k a0 l a = some true := by
  refine Ev.rounds ?_
  have hj : Ev (fun k => antecedentlaw12_CompsTell.j0 k a0 l a true) true := by
    refine Ev.step (f := fun k => (antecedentlaw12_awake.f k).bind fun t => some t) (fun k => ?_) (Ev.bind (f := fun _ t => some t) tell.awake_ev (Ev.now true))
    simp only [antecedentlaw12_CompsTell.j0]
    rw [if_pos trivial]
  unfold antecedentlaw12_CompsTell.f
  refine Ev.bind (f := fun k t => if t = true then (if a0 > 40 then antecedentlaw12_CompsTell.j0 k a0 l a true else antecedentlaw12_CompsTell.j0 k a0 l a (decide ((l.length : Int) > 200))) else antecedentlaw12_CompsTell.j0 k a0 l a true) tell.awake_ev ?_
  refine Ev.congr (f := fun k => if a0 > 40 then antecedentlaw12_CompsTell.j0 k a0 l a true else antecedentlaw12_CompsTell.j0 k a0 l a (decide ((l.length : Int) > 200))) (fun k => if_pos rfl) ?_
  by_cases h40 : a0 > 40
  · exact Ev.congr (fun k => if_pos h40) hj
  · refine Ev.congr (f := fun k => antecedentlaw12_CompsTell.j0 k a0 l a (decide ((l.length : Int) > 200))) (fun k => if_neg h40) ?_
    by_cases hl : (l.length : Int) > 200
    · rw [decide_eq_true hl]; exact hj
    · rw [decide_eq_false hl]
      exact tell.tail_ev a0 l a (by omega) (by omega)
end Go.Proofs.Ytigpeemgnocdhaa.Pure
