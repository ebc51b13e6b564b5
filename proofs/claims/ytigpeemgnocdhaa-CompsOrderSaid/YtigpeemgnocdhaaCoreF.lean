/- The reference's Reached and Comps as plain functions: they come to the same reach and to the same numbering. -/
import Derived.Test.YtigpeemgnocdhaaPZx4
import Derived.Test.YtigpeemgnocdhaaCoreE
namespace Go.Proofs.Ytigpeemgnocdhaa.Core
open Go.RowKit Go.Proofs.Ytigpeemgnocdhaa.PZ Go.Proofs.YtigpeemgnocdhaaW.PrintWords Go.Proofs.YtigpeemgnocdhaaW.PrintLast Go.Proofs.YtigpeemgnocdhaaW.PrintMore
set_option linter.unusedVariables false
set_option linter.unusedSectionVars false

theorem rheld_ev (a0 : Int) (h : a0 ≤ 1000) : antecedentref12_Held.f a0 = some (a0.toNat : Int) := by
  unfold antecedentref12_Held.f
  congr 1
  unfold mx mn
  split <;> split <;> omega

section
variable {N : Nat} {l : List S31}
/-- What a round of the reference's reach keeps. -/
structure RI (N : Nat) (l : List S31) (s : Nat) (b : List Bool) : Prop where
  len : b.length = N
  sub : ∀ i, i < N → Mk b i → R (Core.Edge N l) s i
  src : Mk b s
/-- Nothing to do at edge i. -/
def Cl (N : Nat) (l : List S31) (b : List Bool) (i : Nat) : Prop := okE N (rd_T31 l i) → Mk b (rd_T31 l i).f0.toNat → Mk b (rd_T31 l i).f1.toNat

theorem RI.post {s : Nat} {b : List Bool} (h : RI N l s b) (hs : s < N) (hc : ∀ i, i < l.length → Cl N l b i) : ∀ i, i < N → (Mk b i ↔ R (Core.Edge N l) s i) := by
  intro i hi
  refine ⟨h.sub i hi, fun hr => ?_⟩
  refine R.closed (p := fun x => Mk b x) ?_ hr h.src
  rintro x y hx ⟨h1, h2, e, he, h3, h4⟩
  obtain ⟨j, hj, rfl⟩ := List.getElem_of_mem he
  have hcl := hc j hj
  unfold Cl okE at hcl
  rw [rdT_at _ _ hj, h3, h4, Int.toNat_natCast, Int.toNat_natCast] at hcl
  exact hcl ⟨by omega, by omega, by omega, by omega⟩ hx

theorem round_ev (hN : N ≤ 1000) (hl : l.length ≤ 100000) (s : Nat) (hs : s < N) (P : List Bool → Prop) (c : Nat)
    (done : ∀ b, RI N l s b → (∀ i, i < l.length → Cl N l b i) → P b)
    (again : ∀ b, RI N l s b → b.count false < c → ∃ r, Ev (fun k => antecedentref12_Reached.l0 k N l b true) r ∧ P r) (d : Nat) :
    ∀ n b ch, n ≤ l.length → l.length - n = d → RI N l s b → (ch = false → (∀ i, i < n → Cl N l b i) ∧ b.count false ≤ c) → (ch = true → b.count false < c) →
      ∃ r, Ev (fun k => antecedentref12_Reached.l1 k N l b ch l.length n) r ∧ P r := by
  induction d with
  | zero =>
    intro n b ch hn hd hb hf ht
    cases ch with
    | false =>
      have hf := (hf rfl).1
      refine ⟨b, Ev.step (f := fun k => antecedentref12_Reached.l0 k N l b false) (fun k => ?_) (Ev.step (f := fun _ => some b) (fun k => ?_) (Ev.now b)), done b hb (fun i hi => hf i (by omega))⟩
      · simp only [antecedentref12_Reached.l1]
        rw [if_neg (by omega)]
      · simp only [antecedentref12_Reached.l0]
        rw [if_neg (by simp)]
    | true =>
      obtain ⟨r, hr, hP⟩ := again b hb (ht rfl)
      refine ⟨r, Ev.step (fun k => ?_) hr, hP⟩
      simp only [antecedentref12_Reached.l1]
      rw [if_neg (by omega)]
  | succ d ih =>
    intro n b ch hn hd hb hf ht
    have hbl := hb.len
    have hw := Aside0.mk (show wrap64 ((n : Int) + 1) = ((n + 1 : Nat) : Int) by rw [wrap_id (by omega) (by omega)]; rfl)
    have skip : Cl N l b n → ∃ r, Ev (fun k => antecedentref12_Reached.l1 k N l b ch l.length (n + 1 : Nat)) r ∧ P r := by
      intro hcl
      refine ih (n + 1) b ch (by omega) (by omega) hb (fun e => ⟨fun i hi => ?_, (hf e).2⟩) ht
      by_cases e2 : i = n
      · subst e2; exact hcl
      · exact (hf e).1 i (by omega)
    by_cases c1 : (rd_T31 l n).f0 ≥ 0
    · by_cases c2 : (rd_T31 l n).f0 < N
      · by_cases c3 : (rd_T31 l n).f1 ≥ 0
        · by_cases c4 : (rd_T31 l n).f1 < N
          · by_cases c5 : Mk b (rd_T31 l n).f0.toNat
            · by_cases c6 : Mk b (rd_T31 l n).f1.toNat
              · obtain ⟨r, hr, hP⟩ := skip (fun _ _ => c6)
                refine ⟨r, Ev.step (fun k => ?_) hr, hP⟩
                simp only [antecedentref12_Reached.l1]
                rw [if_pos (by omega), if_pos (by omega), if_pos (by omega), if_pos c1, if_pos c2, if_pos c3, if_pos c4, if_pos c1, if_pos (by omega), if_pos ((rdOf_mk _ _).2 c5), if_pos c3, if_pos (by omega), if_pos ((rdOf_mk _ _).2 c6), hw.out]
              · have hcs := count_set b (rd_T31 l n).f1.toNat (by omega) c6
                have hle : b.count false ≤ c := by
                  cases ch with
                  | false => exact (hf rfl).2
                  | true => exact Nat.le_of_lt (ht rfl)
                obtain ⟨r, hr, hP⟩ := ih (n + 1) (b.set (rd_T31 l n).f1.toNat true) true (by omega) (by omega) ⟨by rw [List.length_set]; exact hbl, by
                    intro i hi hm
                    rw [mk_set _ _ _ (by omega)] at hm
                    rcases hm with hm | hm
                    · subst hm
                      refine (hb.sub _ (by omega) c5).step ⟨by omega, by omega, rd_T31 l n, ?_, by omega, by omega⟩
                      rw [rdT_at _ _ (by omega)]
                      exact List.getElem_mem _
                    · exact hb.sub i hi hm, by rw [mk_set _ _ _ (by omega)]; exact .inr hb.src⟩ (fun e => by cases e) (fun _ => by omega)
                refine ⟨r, Ev.step (fun k => ?_) hr, hP⟩
                simp only [antecedentref12_Reached.l1]
                rw [if_pos (by omega), if_pos (by omega), if_pos (by omega), if_pos c1, if_pos c2, if_pos c3, if_pos c4, if_pos c1, if_pos (by omega), if_pos ((rdOf_mk _ _).2 c5), if_pos c3, if_pos (by omega), if_neg (fun h => c6 ((rdOf_mk _ _).1 h)), hw.out]
            · obtain ⟨r, hr, hP⟩ := skip (fun _ h => absurd h c5)
              refine ⟨r, Ev.step (fun k => ?_) hr, hP⟩
              simp only [antecedentref12_Reached.l1]
              rw [if_pos (by omega), if_pos (by omega), if_pos (by omega), if_pos c1, if_pos c2, if_pos c3, if_pos c4, if_pos c1, if_pos (by omega), if_neg (fun h => c5 ((rdOf_mk _ _).1 h)), hw.out]
          · obtain ⟨r, hr, hP⟩ := skip (fun h _ => absurd h.2.2.2 c4)
            refine ⟨r, Ev.step (fun k => ?_) hr, hP⟩
            simp only [antecedentref12_Reached.l1]
            rw [if_pos (by omega), if_pos (by omega), if_pos (by omega), if_pos c1, if_pos c2, if_pos c3, if_neg c4, hw.out]
        · obtain ⟨r, hr, hP⟩ := skip (fun h _ => absurd h.2.2.1 c3)
          refine ⟨r, Ev.step (fun k => ?_) hr, hP⟩
          simp only [antecedentref12_Reached.l1]
          rw [if_pos (by omega), if_pos (by omega), if_pos (by omega), if_pos c1, if_pos c2, if_neg c3, hw.out]
      · obtain ⟨r, hr, hP⟩ := skip (fun h _ => absurd h.2.1 c2)
        refine ⟨r, Ev.step (fun k => ?_) hr, hP⟩
        simp only [antecedentref12_Reached.l1]
        rw [if_pos (by omega), if_pos (by omega), if_pos (by omega), if_pos c1, if_neg c2, hw.out]
    · obtain ⟨r, hr, hP⟩ := skip (fun h _ => absurd h.1 c1)
      refine ⟨r, Ev.step (fun k => ?_) hr, hP⟩
      simp only [antecedentref12_Reached.l1]
      rw [if_pos (by omega), if_pos (by omega), if_pos (by omega), if_neg c1, hw.out]

theorem rounds_ev (hN : N ≤ 1000) (hl : l.length ≤ 100000) (s : Nat) (hs : s < N) (c : Nat) : ∀ b, RI N l s b → b.count false = c → ∃ r, Ev (fun k => antecedentref12_Reached.l0 k N l b true) r ∧ (RI N l s r ∧ ∀ i, i < l.length → Cl N l r i) := by
  induction c using Nat.strongRecOn with
  | _ c ih =>
    intro b hb hc
    obtain ⟨r, hr, hP⟩ := round_ev hN hl s hs (fun r => RI N l s r ∧ ∀ i, i < l.length → Cl N l r i) c (fun b h1 h2 => ⟨h1, h2⟩) (fun b h1 h2 => ih _ h2 b h1 rfl) _ 0 b false (by omega) rfl hb (fun _ => ⟨fun i hi => by omega, by omega⟩) (fun e => by cases e)
    refine ⟨r, Ev.step (fun k => ?_) hr, hP⟩
    simp only [antecedentref12_Reached.l0]
    rw [if_pos trivial]
    rfl
end

/-- The reference's reach, from a node. -/
theorem Reached_ev (N : Nat) (hN : N ≤ 1000) (l : List S31) (hl : l.length ≤ 100000) (a0 : Int) (ha : a0.toNat = N ∧ a0 ≤ 1000) (s : Nat) (hs : s < N) : ∃ b, Ev (fun k => antecedentref12_Reached.f k a0 l s) b ∧ b.length = N ∧ ∀ i, i < N → (Mk b i ↔ R (Core.Edge N l) s i) := by
  have hmk : ∀ i, ¬ Mk (List.replicate N false) i := by
    intro i h
    unfold Mk at h
    rw [List.getD_eq_getElem?_getD, List.getElem?_replicate] at h
    split at h <;> simp at h
  obtain ⟨r, hr, hP, hc⟩ := rounds_ev hN hl s hs _ ((List.replicate N false).set s true) ⟨by simp, by
    intro i hi hm
    rw [mk_set _ _ _ (by simpa using hs)] at hm
    rcases hm with hm | hm
    · subst hm; exact .refl
    · exact absurd hm (hmk i), by rw [mk_set _ _ _ (by simpa using hs)]; exact .inl rfl⟩ rfl
  refine ⟨r, ?_, hP.len, hP.post hs hc⟩
  unfold antecedentref12_Reached.f
  refine Ev.congr (f := fun k => antecedentref12_Reached.j0 k N l s (List.replicate N false) false) (fun k => ?_) (Ev.step (fun k => ?_) hr)
  · rw [rheld_ev a0 ha.2, ha.1]
    simp only [Option.bind_some]
    rw [if_pos (by omega), if_pos (by omega), if_neg (by omega), decide_eq_false (by omega), Int.toNat_natCast]
  · simp only [antecedentref12_Reached.j0]
    rw [if_neg (by simp), if_pos (by omega), if_pos (by rw [List.length_replicate]; omega), Int.toNat_natCast]

/-- The reference's reach, from no node. -/
theorem Reached_none (N : Nat) (hN : N ≤ 1000) (l : List S31) (a0 : Int) (ha : a0.toNat = N ∧ a0 ≤ 1000) (s : Int) (hs : s < 0 ∨ (N : Int) ≤ s) : Ev (fun k => antecedentref12_Reached.f k a0 l s) (List.replicate N false) := by
  unfold antecedentref12_Reached.f
  refine Ev.congr (f := fun k => antecedentref12_Reached.j0 k N l s (List.replicate N false) true) (fun k => ?_) (Ev.step (f := fun _ => some (List.replicate N false)) (fun k => ?_) (Ev.now _))
  · rw [rheld_ev a0 ha.2, ha.1]
    simp only [Option.bind_some]
    rw [if_pos (by omega), if_pos (by omega), Int.toNat_natCast]
    by_cases h : s < 0
    · rw [if_pos h]
    · rw [if_neg h, decide_eq_true (by omega)]
  · simp only [antecedentref12_Reached.j0]
    rw [if_pos trivial]
end Go.Proofs.Ytigpeemgnocdhaa.Core
