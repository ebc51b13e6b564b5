
/- comps.Comps and comps.Reach as plain functions: their whole value. -/
import Derived.Test.YtfkilcegdajdcaaCoreD
namespace Go.Proofs.Ytfkilcegdajdcaa.Core
open Go.RowKit Go.Proofs.Ytfkilcegdajdcaa.PZ Go.Proofs.YtfkilcegdajdcaaW.PrintWords Go.Proofs.YtfkilcegdajdcaaW.PrintLast Go.Proofs.YtfkilcegdajdcaaW.PrintMore
set_option linter.unusedVariables false
theorem held_ev (N : Nat) (hN : N ≤ 1000) : comps_held.f (N : Int) = some (N : Int) := by
  unfold comps_held.f
  congr 1
  unfold mx mn
  split <;> split <;> omega
theorem Good.ext {N : Nat} {E : Nat → Nat → Prop} {f g : Nat → Int} (he : ∀ i, i < N → f i = g i) (hf : Good N E f) : Good N E g := by
  have fr : ∀ j, j < N → ∀ m, (Free N E f j m ↔ Free N E g j m) := by
    intro j hj m
    unfold Free
    rw [he j hj]
    constructor
    · rintro ⟨h1, h2⟩; exact ⟨h1, fun k hk hr => (h2 k hk hr).imp id fun h => by rw [← he k hk]; exact h⟩
    · rintro ⟨h1, h2⟩; exact ⟨h1, fun k hk hr => (h2 k hk hr).imp id fun h => by rw [he k hk]; exact h⟩
  refine ⟨fun i j hi hj => by rw [← he i hi, ← he j hj]; exact hf.cls i j hi hj, fun i hi => by rw [← he i hi]; exact hf.nn i hi, fun i hi => ?_, fun i hi m h0 h1 => ?_⟩
  · obtain ⟨b, hb, h1, h2, h3⟩ := hf.first i hi
    exact ⟨b, hb, by rw [← he b hb, ← he i hi]; exact h1, by rw [← he i hi]; exact (fr b hb _).1 h2, fun j hj h => h3 j hj (by rw [he i hi]; exact (fr j (by omega) _).2 h)⟩
  · rw [← he i hi] at h1
    obtain ⟨j, hj, e⟩ := hf.full i hi m h0 h1
    exact ⟨j, hj, by rw [← he j hj]; exact e⟩
section
variable {N : Nat} {l : List S53} {g : List Int} {gs : List (List Int)} {ld : List Nat}
theorem out_ev (hN : N ≤ 1000) (h : G2 N l N g gs ld) {num : List Int} (hnl : num.length = ld.length) (d : Nat) :
    ∀ (i : Nat) (out : List Int), i ≤ N → N - i = d → out.length = N → (∀ j, j < i → rd out (j : Int) = nof g num j) →
      ∃ r, Ev (fun k => comps_Comps.l6 k out g N i num) r ∧ r.length = N ∧ ∀ j, j < N → rd r (j : Int) = nof g num j := by
  induction d with
  | zero =>
    intro i out hi hd ho hv
    obtain rfl : i = N := by omega
    refine ⟨out, Ev.step (f := fun _ => some out) (fun k => ?_) (Ev.now out), ho, hv⟩
    simp only [comps_Comps.l6]
    rw [if_neg (by omega)]
  | succ d ih =>
    intro i out hi hd ho hv
    have hgl := h.glen
    obtain ⟨q, hq, e, _⟩ := h.all i (by omega)
    have hw := Aside0.mk (show wrap64 ((i : Int) + 1) = ((i + 1 : Nat) : Int) by rw [wrap_id (by omega) (by omega)]; rfl)
    obtain ⟨r, hr, hP⟩ := ih (i + 1) (out.set i (rd num (rd g (i : Int)))) (by omega) (by omega) (by rw [List.length_set]; exact ho) (by
      intro j hj
      rw [rd_set _ _ _ _ (by omega)]
      by_cases e2 : j = i
      · subst e2; rw [if_pos rfl]; rfl
      · rw [if_neg e2]; exact hv j (by omega))
    refine ⟨r, Ev.step (fun k => ?_) hr, hP⟩
    simp only [comps_Comps.l6]
    rw [if_pos (by omega), if_pos (by omega), if_pos (by omega), if_pos (by omega), if_pos (by omega), if_pos (by omega), hw.out, Int.toNat_natCast]
theorem all_rep (xs : List Int) (M : Nat) (hl : xs.length = M) (h : ∀ j, j < M → rd xs (j : Int) = -1) : xs = List.replicate M (-1) := by
  rw [List.eq_replicate_iff]
  refine ⟨hl, fun b hb => ?_⟩
  obtain ⟨i, hi, rfl⟩ := List.getElem_of_mem hb
  rw [← rd_at]
  exact h i (by omega)
theorem G4.zero (h : G2 N l N g gs ld) : G4 N l g ld 0 (List.replicate ld.length (-1)) := by
  have hr : ∀ q, q < ld.length → rd (List.replicate ld.length (-1)) (q : Int) = -1 := fun q hq => rd_rep _ _ _ hq
  refine ⟨by simp, fun q hq => .inl (hr q hq), ?_, ?_, by simp, ?_, ?_⟩
  · intro p q hp hq h0; rw [hr p hp] at h0; omega
  · intro x h0 h1; omega
  · intro q hq h0; rw [hr q hq] at h0; omega
  · intro q hq h0; rw [hr q hq] at h0; omega
theorem ones_ev (hN : N ≤ 1000) (h : G2 N l N g gs ld) (P : List Int → Prop)
    (done : ∃ r, Ev (fun k => comps_Comps.l4 k N ld.length (0 : Nat) (adj false N l l.length) g gs (List.replicate ld.length (-1))) r ∧ P r) (d : Nat) :
    ∀ (i : Nat) (num : List Int), i ≤ ld.length → ld.length - i = d → num.length = ld.length → (∀ j, j < i → rd num (j : Int) = -1) →
      ∃ r, Ev (fun k => comps_Comps.l3 k N ld.length i (adj false N l l.length) g gs num) r ∧ P r := by
  induction d with
  | zero =>
    intro i num hi hd ho hv
    obtain rfl : i = ld.length := by omega
    obtain ⟨r, hr, hP⟩ := done
    have hgsl := h.gslen
    rw [← all_rep num _ ho hv] at hr
    refine ⟨r, Ev.step (fun k => ?_) hr, hP⟩
    simp only [comps_Comps.l3]
    rw [if_neg (by omega), hgsl]
    rfl
  | succ d ih =>
    intro i num hi hd ho hv
    have hmany := h.many
    have hw := Aside0.mk (show wrap64 ((i : Int) + 1) = ((i + 1 : Nat) : Int) by rw [wrap_id (by omega) (by omega)]; rfl)
    obtain ⟨r, hr, hP⟩ := ih (i + 1) (num.set i (-1)) (by omega) (by omega) (by rw [List.length_set]; exact ho) (by
      intro j hj
      rw [rd_set _ _ _ _ (by omega)]
      by_cases e2 : j = i
      · rw [if_pos e2]
      · rw [if_neg e2]; exact hv j (by omega))
    refine ⟨r, Ev.step (fun k => ?_) hr, hP⟩
    simp only [comps_Comps.l3]
    rw [if_pos (by omega), if_pos (by omega), if_pos (by omega), hw.out, Int.toNat_natCast]
theorem behind_ev (hN : N ≤ 1000) (h : G2 N l N g gs ld) : ∃ r, Ev (fun k => comps_Comps.l1 k N (adj true N l l.length) N N (adj false N l l.length) g gs) r ∧ Ok N (Edge N l) r := by
  have hgsl := h.gslen
  have hmany := h.many
  have hgl := h.glen
  have hnum : ∀ num, G4 N l g ld ld.length num → ∃ r, Ev (fun k => comps_Comps.l4 k N ld.length ld.length (adj false N l l.length) g gs num) r ∧ Ok N (Edge N l) r := by
    intro num hn
    have hnl := hn.nlen
    obtain ⟨r, hr, hl, hv⟩ := out_ev hN h hnl N 0 (List.replicate N 0) (by omega) (by omega) (by simp) (fun j hj => by omega)
    refine ⟨r, Ev.step (fun k => ?_) hr, hl, ?_⟩
    · simp only [comps_Comps.l4]
      rw [if_neg (by omega), if_pos (by omega), if_pos (by omega), hgl, Int.toNat_natCast]
      rfl
    · have hg := G4.good h hn
      have he : ∀ i, i < N → (fun i => nof g num i) i = (fun i : Nat => rd r (i : Int)) i := fun i hi => (hv i hi).symm
      exact Good.ext he hg
  obtain ⟨r, hr, hP⟩ := ones_ev hN h (Ok N (Edge N l)) (number_ev hN h (Ok N (Edge N l)) hnum _ 0 _ (by omega) rfl (G4.zero h)) _ 0 (List.replicate ld.length 0) (by omega) rfl (by simp) (fun j hj => by omega)
  refine ⟨r, Ev.step (fun k => ?_) hr, hP⟩
  simp only [comps_Comps.l1]
  rw [if_neg (by omega), if_pos (by omega), if_pos (by omega), hgsl, Int.toNat_natCast]
  simp only [Option.bind_some, List.length_replicate]
  rfl
theorem neg_ev (hN : N ≤ 1000) (P : List Int → Prop)
    (done : ∃ r, Ev (fun k => comps_Comps.l1 k N (adj true N l l.length) N (0 : Nat) (adj false N l l.length) (List.replicate N (-1)) []) r ∧ P r) (d : Nat) :
    ∀ (i : Nat) (g : List Int), i ≤ N → N - i = d → g.length = N → (∀ j, j < i → rd g (j : Int) = -1) →
      ∃ r, Ev (fun k => comps_Comps.l0 k N (adj true N l l.length) N i (adj false N l l.length) g) r ∧ P r := by
  induction d with
  | zero =>
    intro i num hi hd ho hv
    obtain rfl : i = N := by omega
    obtain ⟨r, hr, hP⟩ := done
    rw [← all_rep num _ ho hv] at hr
    refine ⟨r, Ev.step (fun k => ?_) hr, hP⟩
    simp only [comps_Comps.l0]
    rw [if_neg (by omega)]
    rfl
  | succ d ih =>
    intro i num hi hd ho hv
    have hw := Aside0.mk (show wrap64 ((i : Int) + 1) = ((i + 1 : Nat) : Int) by rw [wrap_id (by omega) (by omega)]; rfl)
    obtain ⟨r, hr, hP⟩ := ih (i + 1) (num.set i (-1)) (by omega) (by omega) (by rw [List.length_set]; exact ho) (by
      intro j hj
      rw [rd_set _ _ _ _ (by omega)]
      by_cases e2 : j = i
      · rw [if_pos e2]
      · rw [if_neg e2]; exact hv j (by omega))
    refine ⟨r, Ev.step (fun k => ?_) hr, hP⟩
    simp only [comps_Comps.l0]
    rw [if_pos (by omega), if_pos (by omega), if_pos (by omega), hw.out, Int.toNat_natCast]
end
theorem G2.zero (N : Nat) (l : List S53) : G2 N l 0 (List.replicate N (-1)) [] [] :=
  ⟨by simp, rfl, by simp, fun q hq => by simp at hq, fun p q hp => by simp at hp, fun p q hp => by simp at hp, fun k hk => .inl (rd_rep _ _ _ hk), fun k hk j hj => by omega, fun q hq => by simp at hq, fun q hq => by simp at hq, fun q hq => by simp at hq⟩
theorem Comps_ev (N : Nat) (hN : N ≤ 1000) (l : List S53) (hl : l.length ≤ 100000) : ∃ of, Ev (fun k => comps_Comps.f k N l) of ∧ Ok N (Edge N l) of := by
  obtain ⟨r, hr, hP⟩ := groups_ev hN hl (Ok N (Edge N l)) (fun g gs ld h => behind_ev hN h) N 0 _ [] [] (by omega) rfl (G2.zero N l)
  obtain ⟨r, hr, hP⟩ := neg_ev hN (Ok N (Edge N l)) ⟨r, hr, hP⟩ N 0 (List.replicate N 0) (by omega) rfl (by simp) (fun j hj => by omega)
  refine ⟨r, ?_, hP⟩
  unfold comps_Comps.f
  refine Ev.congr (f := fun k => (comps_lists.f k (N : Int) l false).bind fun t => (comps_lists.f k (N : Int) l true).bind fun u => comps_Comps.l0 k N u N 0 t (List.replicate N 0)) (fun k => ?_) ?_
  · rw [held_ev N hN]
    simp only [Option.bind_some]
    simp only [if_pos (show (0 : Int) ≤ (N : Int) by omega), if_pos (show N ≤ 35184372088832 by omega), Int.toNat_natCast, List.length_replicate]
  · refine Ev.bind (f := fun k t => (comps_lists.f k (N : Int) l true).bind fun u => comps_Comps.l0 k N u N 0 t (List.replicate N 0)) (Lists_ev false N hN l hl) ?_
    refine Ev.bind (f := fun k u => comps_Comps.l0 k N u N 0 (adj false N l l.length) (List.replicate N 0)) (Lists_ev true N hN l hl) ?_
    exact hr
end Go.Proofs.Ytfkilcegdajdcaa.Core
