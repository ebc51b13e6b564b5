/- CompsReach's pure statement: what a node reaches holds the node, all edges out of it, and all that its members reach, and none with a greater number; no condition beyond the statement's own. -/
import Derived.OpenShut
import Derived.Test.YtigpeemgnocdhaaPZx11
import Derived.Test.YtigpeemgnocdhaaCoreE
namespace Go.Proofs.Ytigpeemgnocdhaa.Pure
open Go.RowKit Go.Proofs.Ytigpeemgnocdhaa.PZ Go.Proofs.Ytigpeemgnocdhaa.Core Go.Proofs.YtigpeemgnocdhaaW.PrintWords Go.Proofs.YtigpeemgnocdhaaW.PrintLast Go.Proofs.YtigpeemgnocdhaaW.PrintMore
set_option linter.unusedVariables false
set_option linter.unusedSectionVars false

namespace reach
theorem awake_ev : Ev (fun k => antecedentlaw12_awake.f k) true := Ev.of (fun k => antecedentlaw12_awake.mono k) (k := 60) (by decide +kernel)

theorem has_from (r : List Int) (hr : r.length ≤ 1000) (y : Int) (d : Nat) : ∀ i, i ≤ r.length → r.length - i = d → (∃ j, i ≤ j ∧ j < r.length ∧ rd r (j : Int) = y) → Ev (fun k => antecedentlaw12_CompsReach_1.l0 k r y r.length i) true := by
  induction d with
  | zero => intro i h1 h2 ⟨j, h3, h4, _⟩; omega
  | succ d ih =>
    intro i h1 h2 ⟨j, h3, h4, h5⟩
    have hw := Aside0.mk (show wrap64 ((i : Int) + 1) = ((i + 1 : Nat) : Int) by rw [wrap_id (by omega) (by omega)]; rfl)
    by_cases e : rd r (i : Int) = y
    · refine Ev.step (f := fun _ => some true) (fun k => ?_) (Ev.now true)
      simp only [antecedentlaw12_CompsReach_1.l0]
      rw [if_pos (by omega), if_pos (by omega), if_pos (by omega), if_pos e]
    · have hji : i + 1 ≤ j := by
        rcases Nat.lt_or_ge i j with h | h
        · exact h
        · have : j = i := by omega
          subst this
          exact absurd h5 e
      refine Ev.step (fun k => ?_) (ih (i + 1) (by omega) (by omega) ⟨j, hji, h4, h5⟩)
      simp only [antecedentlaw12_CompsReach_1.l0]
      rw [if_pos (by omega), if_pos (by omega), if_pos (by omega), if_neg e, hw.out]
theorem has_ev (r : List Int) (hr : r.length ≤ 1000) (y : Int) (hy : y ∈ r) : Ev (fun k => antecedentlaw12_CompsReach_1.f k r y) true := by
  obtain ⟨j, hj, e⟩ := List.getElem_of_mem hy
  exact has_from r hr y _ 0 (by omega) rfl ⟨j, by omega, hj, by rw [rd_at _ _ hj]; exact e⟩

section
variable (N : Nat) (hN : N ≤ 1000) (l : List S31) (hl : l.length ≤ 100000) (of : List Int) (ho : Ok N (Core.Edge N l) of)
include hN hl ho

theorem edges (i : Nat) (hi : i < N) (r : List Int) (hr : Rch N l i r) (next : Ev (fun k => antecedentlaw12_CompsReach.l0 k l N of N (i + 1 : Nat)) true) (d : Nat) : ∀ n, n ≤ l.length → l.length - n = d →
    Ev (fun k => antecedentlaw12_CompsReach.l3 k l N of i r N i l.length n) true := by
  have hrl := hr.len
  have hw1 := Aside0.mk (show wrap64 ((i : Int) + 1) = ((i + 1 : Nat) : Int) by rw [wrap_id (by omega) (by omega)]; rfl)
  induction d with
  | zero =>
    intro n hn hd
    refine Ev.step (fun k => ?_) next
    simp only [antecedentlaw12_CompsReach.l3]
    rw [if_neg (by omega), hw1.out]
  | succ d ih =>
    intro n hn hd
    have hw := Aside0.mk (show wrap64 ((n : Int) + 1) = ((n + 1 : Nat) : Int) by rw [wrap_id (by omega) (by omega)]; rfl)
    have go := ih (n + 1) (by omega) (by omega)
    by_cases e1 : (rd_T31 l n).f0 = i
    · by_cases e2 : (rd_T31 l n).f1 ≥ 0
      · by_cases e3 : (rd_T31 l n).f1 < N
        · have hin : (rd_T31 l n).f1 ∈ r := by
            rw [hr.mem]
            refine ⟨e2, e3, R.one ⟨hi, by omega, rd_T31 l n, ?_, e1, by omega⟩⟩
            rw [rdT_at _ _ (by omega)]
            exact List.getElem_mem _
          refine Ev.step (f := fun k => (antecedentlaw12_CompsReach_1.f k r ((rd_T31 l n).f1)).bind fun t => if t = true then antecedentlaw12_CompsReach.l3 k l N of i r N i l.length (n + 1 : Nat) else some false) (fun k => ?_) (Ev.bind (f := fun k t => if t = true then antecedentlaw12_CompsReach.l3 k l N of i r N i l.length (n + 1 : Nat) else some false) (has_ev r (by omega) _ hin) ?_)
          · simp only [antecedentlaw12_CompsReach.l3]
            rw [if_pos (by omega), if_pos (by omega), if_pos (by omega), if_pos e1, if_pos e2, if_pos e3, hw.out]
          · exact Ev.congr (fun k => if_pos rfl) go
        · refine Ev.step (fun k => ?_) go
          simp only [antecedentlaw12_CompsReach.l3]
          rw [if_pos (by omega), if_pos (by omega), if_pos (by omega), if_pos e1, if_pos e2, if_neg e3, hw.out]
      · refine Ev.step (fun k => ?_) go
        simp only [antecedentlaw12_CompsReach.l3]
        rw [if_pos (by omega), if_pos (by omega), if_pos (by omega), if_pos e1, if_neg e2, hw.out]
    · refine Ev.step (fun k => ?_) go
      simp only [antecedentlaw12_CompsReach.l3]
      rw [if_pos (by omega), if_pos (by omega), if_pos (by omega), if_neg e1, hw.out]

theorem inner (i : Nat) (hi : i < N) (r : List Int) (hr : Rch N l i r) (m : Nat) (hm : m < r.length) (r2 : List Int) (h2 : r2.length ≤ 1000) (hsub : ∀ y ∈ r2, y ∈ r) (next : Ev (fun k => antecedentlaw12_CompsReach.l1 k l N of i r N i r r.length (m + 1 : Nat)) true) (d : Nat) : ∀ n, n ≤ r2.length → r2.length - n = d →
    Ev (fun k => antecedentlaw12_CompsReach.l2 k l N of i r N i r r.length m r2 r2.length n) true := by
  have hrl := hr.len
  have hw1 := Aside0.mk (show wrap64 ((m : Int) + 1) = ((m + 1 : Nat) : Int) by rw [wrap_id (by omega) (by omega)]; rfl)
  induction d with
  | zero =>
    intro n hn hd
    refine Ev.step (fun k => ?_) next
    simp only [antecedentlaw12_CompsReach.l2]
    rw [if_neg (by omega), hw1.out]
  | succ d ih =>
    intro n hn hd
    have hw := Aside0.mk (show wrap64 ((n : Int) + 1) = ((n + 1 : Nat) : Int) by rw [wrap_id (by omega) (by omega)]; rfl)
    have hin : rd r2 (n : Int) ∈ r := by
      rw [rd_at _ _ (by omega)]
      exact hsub _ (List.getElem_mem _)
    refine Ev.step (f := fun k => (antecedentlaw12_CompsReach_1.f k r (rd r2 (n : Int))).bind fun t => if t = true then antecedentlaw12_CompsReach.l2 k l N of i r N i r r.length m r2 r2.length (n + 1 : Nat) else some false) (fun k => ?_) (Ev.bind (f := fun k t => if t = true then antecedentlaw12_CompsReach.l2 k l N of i r N i r r.length m r2 r2.length (n + 1 : Nat) else some false) (has_ev r (by omega) _ hin) ?_)
    · simp only [antecedentlaw12_CompsReach.l2]
      rw [if_pos (by omega), if_pos (by omega), if_pos (by omega), hw.out]
    · exact Ev.congr (fun k => if_pos rfl) (ih (n + 1) (by omega) (by omega))

theorem members (i : Nat) (hi : i < N) (r : List Int) (hr : Rch N l i r) (next : Ev (fun k => antecedentlaw12_CompsReach.l0 k l N of N (i + 1 : Nat)) true) (d : Nat) : ∀ m, m ≤ r.length → r.length - m = d →
    Ev (fun k => antecedentlaw12_CompsReach.l1 k l N of i r N i r r.length m) true := by
  have hrl := hr.len
  have hol := ho.1
  induction d with
  | zero =>
    intro m hm hd
    refine Ev.step (fun k => ?_) (edges N hN l hl of ho i hi r hr next _ 0 (by omega) rfl)
    simp only [antecedentlaw12_CompsReach.l1]
    rw [if_neg (by omega)]
    rfl
  | succ d ih =>
    intro m hm hd
    have hin : rd r (m : Int) ∈ r := by
      rw [rd_at _ _ (by omega)]
      exact List.getElem_mem _
    obtain ⟨y0, y1, y2⟩ := (hr.mem _).1 hin
    have hy := Aside0.mk (show rd r (m : Int) = ((rd r (m : Int)).toNat : Int) by omega)
    have hdown := ho.2.down hi (by omega) y2
    have hd2 : rd of (rd r (m : Int)) ≤ rd of (i : Int) := by
      rw [hy.out]; exact hdown
    obtain ⟨r2, hr2, hc⟩ := Reach_ev N hN l hl (rd r (m : Int)).toNat (by omega)
    have hc2 := hc.len
    have hsub : ∀ y ∈ r2, y ∈ r := by
      intro y hy2
      obtain ⟨a, b, c⟩ := (hc.mem y).1 hy2
      exact (hr.mem y).2 ⟨a, b, y2.trans c⟩
    have go := inner N hN l hl of ho i hi r hr m (by omega) r2 (by omega) hsub (ih (m + 1) (by omega) (by omega)) _ 0 (by omega) rfl
    have g3 : Ev (fun k => antecedentlaw12_CompsReach.j3 k l N of i r (rd r (m : Int)) N i r r.length m false) true := by
      refine Ev.step (f := fun k => (comps_Reach.f k N l (rd r (m : Int))).bind fun t => antecedentlaw12_CompsReach.l2 k l N of i r N i r r.length m t (t.length : Int) 0) (fun k => ?_) (Ev.bind (f := fun k t => antecedentlaw12_CompsReach.l2 k l N of i r N i r r.length m t (t.length : Int) 0) (a := r2) ?_ go)
      · simp only [antecedentlaw12_CompsReach.j3]
        rw [if_neg (by simp)]
      · rw [hy.out]; exact hr2
    refine Ev.step (fun k => ?_) g3
    simp only [antecedentlaw12_CompsReach.l1]
    rw [if_pos (by omega), if_pos (by omega), if_pos (by omega), if_neg (by omega), if_neg (by omega), if_pos (by omega), if_pos (by omega), if_pos (by omega), if_pos (by omega), decide_eq_false (by omega)]

theorem nodes (d : Nat) : ∀ i, i ≤ N → N - i = d → Ev (fun k => antecedentlaw12_CompsReach.l0 k l N of N i) true := by
  induction d with
  | zero =>
    intro i hi hd
    refine Ev.step (f := fun _ => some true) (fun k => ?_) (Ev.now true)
    simp only [antecedentlaw12_CompsReach.l0]
    rw [if_neg (by omega)]
  | succ d ih =>
    intro i hi hd
    obtain ⟨r, hre, hr⟩ := Reach_ev N hN l hl i (by omega)
    have hrl := hr.len
    have go := members N hN l hl of ho i (by omega) r hr (ih (i + 1) (by omega) (by omega)) _ 0 (by omega) rfl
    refine Ev.step (f := fun k => (comps_Reach.f k N l i).bind fun t => (antecedentlaw12_CompsReach_1.f k t i).bind fun u => if u = true then antecedentlaw12_CompsReach.l1 k l N of i t N i t (t.length : Int) 0 else some false) (fun k => ?_) (Ev.bind (f := fun k t => (antecedentlaw12_CompsReach_1.f k t i).bind fun u => if u = true then antecedentlaw12_CompsReach.l1 k l N of i t N i t (t.length : Int) 0 else some false) hre (Ev.bind (f := fun k u => if u = true then antecedentlaw12_CompsReach.l1 k l N of i r N i r (r.length : Int) 0 else some false) (has_ev r (by omega) _ ((hr.mem _).2 ⟨by omega, by omega, by rw [Int.toNat_natCast]; exact .refl⟩)) ?_))
    · simp only [antecedentlaw12_CompsReach.l0]
      rw [if_pos (by omega)]
    · exact Ev.congr (fun k => if_pos rfl) go
end
end reach

theorem small_u8 {a0 : Int} (h : (Lit.int .u8 a0).wf = true) : ∃ N : Nat, N ≤ 1000 ∧ Int.tmod (wrap64 a0) 40 = (N : Int) := by
  have hb := bounds_u8 h
  refine ⟨a0.toNat % 40, by omega, ?_⟩
  rw [wrap_id (by omega) (by omega), Int.tmod_eq_emod_of_nonneg (by omega)]
  omega

theorem CompsReach (a0 : Int) (l : List S31) (h0 : (Lit.int .u8 a0).wf = true) (h1 : ∀ x ∈ l, (Lit.int .i64 x.f0).wf = true ∧ (Lit.int .i64 x.f1).wf = true) : ∃ k, antecedentlaw12_CompsReach.f k a0 l = some true := by
  refine Ev.rounds ?_
  obtain ⟨N, hN, e⟩ := small_u8 h0
  unfold antecedentlaw12_CompsReach.f
  refine Ev.bind (f := fun k t => if t = true then antecedentlaw12_CompsReach.j0 k a0 l (decide ((l.length : Int) > 100)) else antecedentlaw12_CompsReach.j0 k a0 l true) reach.awake_ev ?_
  refine Ev.congr (f := fun k => antecedentlaw12_CompsReach.j0 k a0 l (decide ((l.length : Int) > 100))) (fun k => if_pos rfl) ?_
  by_cases hl : (l.length : Int) > 100
  · rw [decide_eq_true hl]
    refine Ev.step (f := fun k => (antecedentlaw12_awake.f k).bind fun t => some t) (fun k => ?_) (Ev.bind (f := fun _ t => some t) reach.awake_ev (Ev.now true))
    simp only [antecedentlaw12_CompsReach.j0]
    rw [if_pos trivial]
  · rw [decide_eq_false hl]
    obtain ⟨of, hof, ho⟩ := Comps_ev N hN l (by omega)
    have hol := ho.1
    refine Ev.step (f := fun k => (comps_Comps.f k N l).bind fun t => if (t.length : Int) = N then antecedentlaw12_CompsReach.l0 k l N t N 0 else some false) (fun k => ?_) (Ev.bind (f := fun k t => if (t.length : Int) = N then antecedentlaw12_CompsReach.l0 k l N t N 0 else some false) hof ?_)
    · simp only [antecedentlaw12_CompsReach.j0]
      rw [if_neg (by simp), e]
    · exact Ev.congr (fun k => if_pos (by omega)) (reach.nodes N hN l (by omega) of ho _ 0 (by omega) rfl)
end Go.Proofs.Ytigpeemgnocdhaa.Pure
