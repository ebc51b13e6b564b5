/- CompsOrder's pure statement: no node needs one of a component with a greater number, and two are of one component just if each reaches the other one; no condition beyond the statement's own. -/
import Derived.OpenShut
import Derived.Test.YtigpeemgnocdhaaPZp8
import Derived.Test.YtigpeemgnocdhaaCoreF
namespace Go.Proofs.Ytigpeemgnocdhaa.Pure
open Go.RowKit Go.Proofs.Ytigpeemgnocdhaa.PZ Go.Proofs.Ytigpeemgnocdhaa.Core Go.Proofs.YtigpeemgnocdhaaW.PrintWords Go.Proofs.YtigpeemgnocdhaaW.PrintLast Go.Proofs.YtigpeemgnocdhaaW.PrintMore
set_option linter.unusedVariables false
set_option linter.unusedSectionVars false

namespace order
theorem awake_ev : Ev (fun k => antecedentlaw12_awake.f k) true := Ev.of (fun k => antecedentlaw12_awake.mono k) (k := 60) (by decide +kernel)

theorem rdOf_ff (b : List Bool) (x : Nat) (h : ¬ Mk b x) : rdOf false b (x : Int) = false := by
  have : ¬ rdOf false b (x : Int) = true := fun e => h (by have := (rdOf_mk _ _).1 e; rw [Int.toNat_natCast] at this; exact this)
  simpa using this
theorem rdOf_tt (b : List Bool) (x : Nat) (h : Mk b x) : rdOf false b (x : Int) = true := (rdOf_mk _ _).2 (by rw [Int.toNat_natCast]; exact h)

section
variable (N : Nat) (hN : N ≤ 1000) (l : List S31) (hl : l.length ≤ 100000) (of : List Int) (ho : Ok N (Core.Edge N l) of)
include hN hl ho

theorem cols (i : Nat) (hi : i < N) (r : List Bool) (hrl : r.length = N) (hr : ∀ j, j < N → (Mk r j ↔ R (Core.Edge N l) i j)) (next : Ev (fun k => antecedentlaw12_CompsOrder.l1 k l N of N (i + 1 : Nat)) true) (d : Nat) : ∀ n, n ≤ N → N - n = d →
    Ev (fun k => antecedentlaw12_CompsOrder.l2 k l N of i r N i N n) true := by
  have hol := ho.1
  have hw1 := Aside0.mk (show wrap64 ((i : Int) + 1) = ((i + 1 : Nat) : Int) by rw [wrap_id (by omega) (by omega)]; rfl)
  induction d with
  | zero =>
    intro n hn hd
    refine Ev.step (fun k => ?_) next
    simp only [antecedentlaw12_CompsOrder.l2]
    rw [if_neg (by omega), hw1.out]
  | succ d ih =>
    intro n hn hd
    have hnN : n < N := by omega
    have hw := Aside0.mk (show wrap64 ((n : Int) + 1) = ((n + 1 : Nat) : Int) by rw [wrap_id (by omega) (by omega)]; rfl)
    have go := ih (n + 1) (by omega) (by omega)
    have hcl := ho.2.cls i n hi hnN
    by_cases h1 : Mk r n
    · obtain ⟨t, ht, htl, htm⟩ := Reached_ev N hN l hl N ⟨by omega, by omega⟩ n hnN
      have heq : ((rd of (i : Int) == rd of (n : Int)) != rdOf false t (i : Int)) = false := by
        by_cases h2 : Mk t i
        · have e : rd of (i : Int) = rd of (n : Int) := hcl.2 ⟨(hr n hnN).1 h1, (htm i hi).1 h2⟩
          rw [rdOf_tt _ _ h2, e]
          simp
        · have e : ¬ rd of (i : Int) = rd of (n : Int) := fun e => h2 ((htm i hi).2 (hcl.1 e).2)
          rw [rdOf_ff _ _ h2, beq_eq_false_iff_ne.2 e]
          rfl
      refine Ev.step (f := fun k => (antecedentref12_Reached.f k N l n).bind fun t => if (i : Int) < (t.length : Int) then (if ((rd of (i : Int) == rd of (n : Int)) != rdOf false t (i : Int)) = true then some false else antecedentlaw12_CompsOrder.l2 k l N of i r N i N (n + 1 : Nat)) else none) (fun k => ?_) (Ev.bind (f := fun k t => if (i : Int) < (t.length : Int) then (if ((rd of (i : Int) == rd of (n : Int)) != rdOf false t (i : Int)) = true then some false else antecedentlaw12_CompsOrder.l2 k l N of i r N i N (n + 1 : Nat)) else none) ht (Ev.congr (fun k => ?_) go))
      · simp only [antecedentlaw12_CompsOrder.l2]
        rw [if_pos (by omega), if_pos (by omega), if_pos (by omega), if_pos (by omega), if_pos (by omega), if_pos (by omega), if_pos (rdOf_tt _ _ h1), hw.out]
      · rw [if_pos (by omega), heq, if_neg (by simp)]
    · have heq : ((rd of (i : Int) == rd of (n : Int)) != false) = false := by
        have e : ¬ rd of (i : Int) = rd of (n : Int) := fun e => h1 ((hr n hnN).2 (hcl.1 e).1)
        rw [beq_eq_false_iff_ne.2 e]
        rfl
      refine Ev.step (fun k => ?_) go
      simp only [antecedentlaw12_CompsOrder.l2]
      rw [if_pos (by omega), if_pos (by omega), if_pos (by omega), if_pos (by omega), if_pos (by omega), if_pos (by omega), if_neg (by rw [rdOf_ff _ _ h1]; simp), heq, if_neg (by simp), hw.out]

theorem rows (d : Nat) : ∀ i, i ≤ N → N - i = d → Ev (fun k => antecedentlaw12_CompsOrder.l1 k l N of N i) true := by
  induction d with
  | zero =>
    intro i hi hd
    refine Ev.step (f := fun _ => some true) (fun k => ?_) (Ev.now true)
    simp only [antecedentlaw12_CompsOrder.l1]
    rw [if_neg (by omega)]
  | succ d ih =>
    intro i hi hd
    obtain ⟨r, hre, hrl, hr⟩ := Reached_ev N hN l hl N ⟨by omega, by omega⟩ i (by omega)
    have go := cols N hN l hl of ho i (by omega) r hrl hr (ih (i + 1) (by omega) (by omega)) _ 0 (by omega) rfl
    refine Ev.step (f := fun k => (antecedentref12_Reached.f k N l i).bind fun t => antecedentlaw12_CompsOrder.l2 k l N of i t N i N 0) (fun k => ?_) (Ev.bind (f := fun k t => antecedentlaw12_CompsOrder.l2 k l N of i t N i N 0) hre go)
    simp only [antecedentlaw12_CompsOrder.l1]
    rw [if_pos (by omega)]

theorem needs (d : Nat) : ∀ n, n ≤ l.length → l.length - n = d → Ev (fun k => antecedentlaw12_CompsOrder.l0 k l N of l.length n) true := by
  have hol := ho.1
  induction d with
  | zero =>
    intro n hn hd
    refine Ev.step (fun k => ?_) (rows N hN l hl of ho _ 0 (by omega) rfl)
    simp only [antecedentlaw12_CompsOrder.l0]
    rw [if_neg (by omega)]
    rfl
  | succ d ih =>
    intro n hn hd
    have hw := Aside0.mk (show wrap64 ((n : Int) + 1) = ((n + 1 : Nat) : Int) by rw [wrap_id (by omega) (by omega)]; rfl)
    have go := ih (n + 1) (by omega) (by omega)
    by_cases c1 : (rd_T31 l n).f0 ≥ 0
    · by_cases c2 : (rd_T31 l n).f0 < N
      · by_cases c3 : (rd_T31 l n).f1 ≥ 0
        · by_cases c4 : (rd_T31 l n).f1 < N
          · have he : Core.Edge N l (rd_T31 l n).f0.toNat (rd_T31 l n).f1.toNat := by
              refine ⟨by omega, by omega, rd_T31 l n, ?_, by omega, by omega⟩
              rw [rdT_at _ _ (by omega)]
              exact List.getElem_mem _
            have hd2 := ho.2.down (i := (rd_T31 l n).f0.toNat) (k := (rd_T31 l n).f1.toNat) (by omega) (by omega) (R.one he)
            have hd3 : rd of (rd_T31 l n).f1 ≤ rd of (rd_T31 l n).f0 := by
              rw [rd_cast of _ c1, rd_cast of _ c3]
              exact hd2
            refine Ev.step (fun k => ?_) go
            simp only [antecedentlaw12_CompsOrder.l0]
            rw [if_pos (by omega), if_pos (by omega), if_pos (by omega), if_pos c1, if_pos c2, if_pos c3, if_pos c4, if_pos c3, if_pos (by omega), if_pos c1, if_pos (by omega), if_neg (by omega), hw.out]
          · refine Ev.step (fun k => ?_) go
            simp only [antecedentlaw12_CompsOrder.l0]
            rw [if_pos (by omega), if_pos (by omega), if_pos (by omega), if_pos c1, if_pos c2, if_pos c3, if_neg c4, hw.out]
        · refine Ev.step (fun k => ?_) go
          simp only [antecedentlaw12_CompsOrder.l0]
          rw [if_pos (by omega), if_pos (by omega), if_pos (by omega), if_pos c1, if_pos c2, if_neg c3, hw.out]
      · refine Ev.step (fun k => ?_) go
        simp only [antecedentlaw12_CompsOrder.l0]
        rw [if_pos (by omega), if_pos (by omega), if_pos (by omega), if_pos c1, if_neg c2, hw.out]
    · refine Ev.step (fun k => ?_) go
      simp only [antecedentlaw12_CompsOrder.l0]
      rw [if_pos (by omega), if_pos (by omega), if_pos (by omega), if_neg c1, hw.out]
end

theorem small_u8 {a0 : Int} (h : (Lit.int .u8 a0).wf = true) : ∃ N : Nat, N ≤ 1000 ∧ Int.tmod (wrap64 a0) 40 = (N : Int) := by
  have hb := bounds_u8 h
  refine ⟨a0.toNat % 40, by omega, ?_⟩
  rw [wrap_id (by omega) (by omega), Int.tmod_eq_emod_of_nonneg (by omega)]
  omega
end order

theorem CompsOrder (a0 : Int) (l : List S31) (h0 : (Lit.int .u8 a0).wf = true) (h1 : ∀ x ∈ l, (Lit.int .i64 x.f0).wf = true ∧ (Lit.int .i64 x.f1).wf = true) : ∃ k, antecedentlaw12_CompsOrder.f k a0 l = some true := by
  refine Ev.rounds ?_
  obtain ⟨N, hN, e⟩ := order.small_u8 h0
  unfold antecedentlaw12_CompsOrder.f
  refine Ev.bind (f := fun k t => if t = true then antecedentlaw12_CompsOrder.j0 k a0 l (decide ((l.length : Int) > 200)) else antecedentlaw12_CompsOrder.j0 k a0 l true) order.awake_ev ?_
  refine Ev.congr (f := fun k => antecedentlaw12_CompsOrder.j0 k a0 l (decide ((l.length : Int) > 200))) (fun k => if_pos rfl) ?_
  by_cases hl : (l.length : Int) > 200
  · rw [decide_eq_true hl]
    refine Ev.step (f := fun k => (antecedentlaw12_awake.f k).bind fun t => some t) (fun k => ?_) (Ev.bind (f := fun _ t => some t) order.awake_ev (Ev.now true))
    simp only [antecedentlaw12_CompsOrder.j0]
    rw [if_pos trivial]
  · rw [decide_eq_false hl]
    obtain ⟨of, hof, ho⟩ := Comps_ev N hN l (by omega)
    have hol := ho.1
    refine Ev.step (f := fun k => (comps_Comps.f k N l).bind fun t => if (t.length : Int) = N then antecedentlaw12_CompsOrder.l0 k l N t (l.length : Int) 0 else some false) (fun k => ?_) (Ev.bind (f := fun k t => if (t.length : Int) = N then antecedentlaw12_CompsOrder.l0 k l N t (l.length : Int) 0 else some false) hof ?_)
    · simp only [antecedentlaw12_CompsOrder.j0]
      rw [if_neg (by simp), e]
    · exact Ev.congr (fun k => if_pos (by omega)) (order.needs N hN l (by omega) of ho _ 0 (by omega) rfl)
end Go.Proofs.Ytigpeemgnocdhaa.Pure
