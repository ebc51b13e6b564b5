/- CompsMore's pure statement: one edge more parts no component and loses no reached node, and edges outside the nodes and edges told twice change nothing; no condition beyond the statement's own. -/
import Derived.OpenShut
import Derived.Test.YtigpeemgnocdhaaPZx5
import Derived.Test.YtigpeemgnocdhaaPZx10
import Derived.Test.YtigpeemgnocdhaaCoreE
namespace Go.Proofs.Ytigpeemgnocdhaa.Pure
open Go.RowKit Go.Proofs.Ytigpeemgnocdhaa.PZ Go.Proofs.Ytigpeemgnocdhaa.Core Go.Proofs.YtigpeemgnocdhaaW.PrintWords Go.Proofs.YtigpeemgnocdhaaW.PrintLast Go.Proofs.YtigpeemgnocdhaaW.PrintMore
set_option linter.unusedVariables false
set_option linter.unusedSectionVars false

namespace more
theorem awake_ev : Ev (fun k => antecedentlaw12_awake.f k) true := Ev.of (fun k => antecedentlaw12_awake.mono k) (k := 60) (by decide +kernel)

theorem same_from (xs ys : List Int) (hl : xs.length ≤ 100000) (he : xs.length = ys.length) (h : ∀ i, i < xs.length → rd xs (i : Int) = rd ys i) (d : Nat) : ∀ i, i ≤ xs.length → xs.length - i = d → Ev (fun k => antecedentlaw12_same.l0 k xs ys xs.length i) true := by
  induction d with
  | zero =>
    intro i hi hd
    refine Ev.step (f := fun _ => some true) (fun k => ?_) (Ev.now true)
    simp only [antecedentlaw12_same.l0]
    rw [if_neg (by omega)]
  | succ d ih =>
    intro i hi hd
    have hw := Aside0.mk (show wrap64 ((i : Int) + 1) = ((i + 1 : Nat) : Int) by rw [wrap_id (by omega) (by omega)]; rfl)
    refine Ev.step (fun k => ?_) (ih (i + 1) (by omega) (by omega))
    simp only [antecedentlaw12_same.l0]
    rw [if_pos (by omega), if_pos (by omega), if_pos (by omega), if_pos (by omega), if_pos (h i (by omega)), hw.out]
theorem same_ev (xs ys : List Int) (hl : xs.length ≤ 100000) (he : xs.length = ys.length) (h : ∀ i, i < xs.length → rd xs (i : Int) = rd ys i) : Ev (fun k => antecedentlaw12_same.f k xs ys) true := by
  unfold antecedentlaw12_same.f
  exact Ev.congr (fun k => if_pos (by omega)) (same_from xs ys hl he h _ 0 (by omega) rfl)

/-- A rising list within a rising list is no longer. -/
theorem rise_len : ∀ (r2 r1 : List Int), r2.Pairwise (· < ·) → r1.Pairwise (· < ·) → (∀ y ∈ r1, y ∈ r2) → r1.length ≤ r2.length
  | _, [], _, _, _ => by simp
  | [], a :: s, _, _, h => by have := h a (by simp); simp at this
  | b :: t, a :: s, h2, h1, h => by
    rw [List.pairwise_cons] at h2
    have h1' := List.pairwise_cons.1 h1
    by_cases e : a = b
    · have := rise_len t s h2.2 h1'.2 fun y hy => by
        have h3 := h1'.1 y hy
        have h4 := h y (by simp [hy])
        rw [List.mem_cons] at h4
        rcases h4 with h4 | h4
        · omega
        · exact h4
      simp only [List.length_cons]
      omega
    · have ha : a ∈ t := by
        have h4 := h a (by simp)
        rw [List.mem_cons] at h4
        rcases h4 with h4 | h4
        · exact absurd h4 e
        · exact h4
      have hba := h2.1 a ha
      have := rise_len t (a :: s) h2.2 h1 fun y hy => by
        have h4 := h y hy
        rw [List.mem_cons] at h4 hy
        rcases h4 with h4 | h4
        · rcases hy with h5 | h5
          · omega
          · have := h1'.1 y h5; omega
        · exact h4
      simp only [List.length_cons] at this ⊢
      omega

theorem edge_more {N : Nat} {l : List S31} (e : S31) {a b : Nat} (h : Core.Edge N l a b) : Core.Edge N (l ++ [e]) a b := by
  obtain ⟨ha, hb, x, hx, h1, h2⟩ := h
  exact ⟨ha, hb, x, by simp [hx], h1, h2⟩
theorem edge_same (N : Nat) (l : List S31) : Core.Edge N ([(⟨(N : Int), 0⟩ : S31), (⟨(-1), 0⟩ : S31), (⟨0, (N : Int)⟩ : S31)] ++ l ++ l) = Core.Edge N l := by
  funext a b
  apply propext
  constructor
  · rintro ⟨ha, hb, x, hx, h1, h2⟩
    refine ⟨ha, hb, x, ?_, h1, h2⟩
    simp only [List.mem_append, List.mem_cons, List.not_mem_nil, or_false] at hx
    rcases hx with ((h | h | h) | h) | h
    · subst h; simp only at h1; omega
    · subst h; simp only at h1; omega
    · subst h; simp only at h2; omega
    · exact h
    · exact h
  · rintro ⟨ha, hb, x, hx, h1, h2⟩
    exact ⟨ha, hb, x, by simp [hx], h1, h2⟩

section
variable (N : Nat) (hN : N ≤ 1000) (l : List S31) (hl : l.length ≤ 1000) (e : S31) (of1 of2 : List Int) (h1 : Ok N (Core.Edge N l) of1) (h2 : Ok N (Core.Edge N (l ++ [e])) of2)
include hN hl h1 h2

theorem pairs (i : Nat) (hi : i < N) (next : Ev (fun k => antecedentlaw12_CompsMore.l0 k l N (l ++ [e]) of1 of2 N (i + 1 : Nat)) true) (d : Nat) : ∀ j, j ≤ N → N - j = d →
    Ev (fun k => antecedentlaw12_CompsMore.l1 k l N (l ++ [e]) of1 of2 i N i N j) true := by
  have hl1 := h1.1
  have hl2 := h2.1
  induction d with
  | zero =>
    intro j hj hd
    have hlen : (l ++ [e]).length ≤ 100000 := by rw [List.length_append, List.length_singleton]; omega
    obtain ⟨r2, hr2, hc2⟩ := Reach_ev N hN (l ++ [e]) hlen i hi
    obtain ⟨r1, hr1, hc1⟩ := Reach_ev N hN l (by omega) i hi
    have hle := rise_len r2 r1 hc2.rise hc1.rise fun y hy => by
      obtain ⟨a, b, c⟩ := (hc1.mem y).1 hy
      exact (hc2.mem y).2 ⟨a, b, c.mono fun _ _ h => edge_more e h⟩
    have hw := Aside0.mk (show wrap64 ((i : Int) + 1) = ((i + 1 : Nat) : Int) by rw [wrap_id (by omega) (by omega)]; rfl)
    refine Ev.step (f := fun k => (comps_Reach.f k N (l ++ [e]) i).bind fun t => (comps_Reach.f k N l i).bind fun u => if (t.length : Int) < (u.length : Int) then some false else antecedentlaw12_CompsMore.l0 k l N (l ++ [e]) of1 of2 N (i + 1 : Nat)) (fun k => ?_) (Ev.bind (f := fun k t => (comps_Reach.f k N l i).bind fun u => if (t.length : Int) < (u.length : Int) then some false else antecedentlaw12_CompsMore.l0 k l N (l ++ [e]) of1 of2 N (i + 1 : Nat)) hr2 (Ev.bind (f := fun k u => if (r2.length : Int) < (u.length : Int) then some false else antecedentlaw12_CompsMore.l0 k l N (l ++ [e]) of1 of2 N (i + 1 : Nat)) hr1 ?_))
    · simp only [antecedentlaw12_CompsMore.l1]
      rw [if_neg (by omega), hw.out]
    · exact Ev.congr (fun k => if_neg (by omega)) next
  | succ d ih =>
    intro j hj hd
    have hw := Aside0.mk (show wrap64 ((j : Int) + 1) = ((j + 1 : Nat) : Int) by rw [wrap_id (by omega) (by omega)]; rfl)
    have go := ih (j + 1) (by omega) (by omega)
    refine Ev.step (fun k => ?_) go
    simp only [antecedentlaw12_CompsMore.l1]
    by_cases c : rd of1 (i : Int) = rd of1 (j : Int)
    · have hm := (h1.2.cls i j hi (by omega)).1 c
      have c2 : rd of2 (i : Int) = rd of2 (j : Int) := (h2.2.cls i j hi (by omega)).2 ⟨hm.1.mono fun _ _ h => edge_more e h, hm.2.mono fun _ _ h => edge_more e h⟩
      rw [if_pos (by omega), if_pos (by omega), if_pos (by omega), if_pos (by omega), if_pos (by omega), if_pos c, if_pos (by omega), if_pos (by omega), if_pos c2, hw.out]
    · rw [if_pos (by omega), if_pos (by omega), if_pos (by omega), if_pos (by omega), if_pos (by omega), if_neg c, hw.out]

theorem nodes (d : Nat) : ∀ i, i ≤ N → N - i = d → Ev (fun k => antecedentlaw12_CompsMore.l0 k l N (l ++ [e]) of1 of2 N i) true := by
  have hl2 := h2.1
  induction d with
  | zero =>
    intro i hi hd
    have hlen : ([(⟨(N : Int), 0⟩ : S31), (⟨(-1), 0⟩ : S31), (⟨0, (N : Int)⟩ : S31)] ++ (l ++ [e]) ++ (l ++ [e])).length ≤ 100000 := by
      simp only [List.length_append, List.length_cons, List.length_nil]; omega
    obtain ⟨of3, he3, h3⟩ := Comps_ev N hN _ hlen
    rw [edge_same] at h3
    have hl3 := h3.1
    have hu := h3.2.unique h2.2
    refine Ev.step (f := fun k => (comps_Comps.f k N ([(⟨(N : Int), 0⟩ : S31), (⟨(-1), 0⟩ : S31), (⟨0, (N : Int)⟩ : S31)] ++ (l ++ [e]) ++ (l ++ [e]))).bind fun t => (antecedentlaw12_same.f k t of2).bind fun u => some u) (fun k => ?_) (Ev.bind (f := fun k t => (antecedentlaw12_same.f k t of2).bind fun u => some u) he3 (Ev.bind (f := fun _ u => some u) (same_ev of3 of2 (by omega) (by omega) (fun i hi => hu i (by omega))) (Ev.now true)))
    simp only [antecedentlaw12_CompsMore.l0, Option.bind_some]
    rw [if_neg (by omega), if_pos (by simp only [List.length_append, List.length_cons, List.length_nil]; omega), if_pos (by simp only [List.length_append, List.length_cons, List.length_nil]; omega)]
  | succ d ih =>
    intro i hi hd
    refine Ev.step (fun k => ?_) (pairs N hN l hl e of1 of2 h1 h2 i (by omega) (ih (i + 1) (by omega) (by omega)) _ 0 (by omega) rfl)
    simp only [antecedentlaw12_CompsMore.l0]
    rw [if_pos (by omega)]
    rfl
end

theorem small_u8 {a0 : Int} (h : (Lit.int .u8 a0).wf = true) : ∃ N : Nat, N ≤ 1000 ∧ Int.tmod (wrap64 a0) 40 = (N : Int) := by
  have hb := bounds_u8 h
  refine ⟨a0.toNat % 40, by omega, ?_⟩
  rw [wrap_id (by omega) (by omega), Int.tmod_eq_emod_of_nonneg (by omega)]
  omega
end more

theorem CompsMore (a0 : Int) (l : List S31) (a b : Int) (h0 : (Lit.int .u8 a0).wf = true) (h1 : ∀ x ∈ l, (Lit.int .i64 x.f0).wf = true ∧ (Lit.int .i64 x.f1).wf = true) (h2 : (Lit.int .i64 a).wf = true) (h3 : (Lit.int .i64 b).wf = true) :
    ∃ k, antecedentlaw12_CompsMore.f k a0 l a b = some true := by
  refine Ev.rounds ?_
  obtain ⟨N, hN, e⟩ := more.small_u8 h0
  unfold antecedentlaw12_CompsMore.f
  refine Ev.bind (f := fun k t => if t = true then antecedentlaw12_CompsMore.j0 k a0 l a b (decide ((l.length : Int) > 100)) else antecedentlaw12_CompsMore.j0 k a0 l a b true) more.awake_ev ?_
  refine Ev.congr (f := fun k => antecedentlaw12_CompsMore.j0 k a0 l a b (decide ((l.length : Int) > 100))) (fun k => if_pos rfl) ?_
  by_cases hl : (l.length : Int) > 100
  · rw [decide_eq_true hl]
    refine Ev.step (f := fun k => (antecedentlaw12_awake.f k).bind fun t => some t) (fun k => ?_) (Ev.bind (f := fun _ t => some t) more.awake_ev (Ev.now true))
    simp only [antecedentlaw12_CompsMore.j0]
    rw [if_pos trivial]
  · rw [decide_eq_false hl]
    obtain ⟨of1, he1, h1⟩ := Comps_ev N hN l (by omega)
    obtain ⟨of2, he2, h2⟩ := Comps_ev N hN (l ++ [(⟨a, b⟩ : S31)]) (by rw [List.length_append, List.length_singleton]; omega)
    have hl1 := h1.1
    have hl2 := h2.1
    have go := more.nodes N hN l (by omega) ⟨a, b⟩ of1 of2 h1 h2 _ 0 (by omega) rfl
    have g1 : Ev (fun k => antecedentlaw12_CompsMore.j1 k l N (l ++ [(⟨a, b⟩ : S31)]) of1 of2 ((of2.length : Int) != (N : Int))) true := by
      refine Ev.step (fun k => ?_) go
      simp only [antecedentlaw12_CompsMore.j1]
      rw [if_neg (by rw [hl2]; simp)]
      rfl
    refine Ev.step (f := fun k => (comps_Comps.f k N l).bind fun t => (comps_Comps.f k N (l ++ [(⟨a, b⟩ : S31)])).bind fun u => if (t.length : Int) = N then antecedentlaw12_CompsMore.j1 k l N (l ++ [(⟨a, b⟩ : S31)]) t u ((u.length : Int) != (N : Int)) else antecedentlaw12_CompsMore.j1 k l N (l ++ [(⟨a, b⟩ : S31)]) t u true) (fun k => ?_) (Ev.bind (f := fun k t => (comps_Comps.f k N (l ++ [(⟨a, b⟩ : S31)])).bind fun u => if (t.length : Int) = N then antecedentlaw12_CompsMore.j1 k l N (l ++ [(⟨a, b⟩ : S31)]) t u ((u.length : Int) != (N : Int)) else antecedentlaw12_CompsMore.j1 k l N (l ++ [(⟨a, b⟩ : S31)]) t u true) he1 (Ev.bind (f := fun k u => if (of1.length : Int) = N then antecedentlaw12_CompsMore.j1 k l N (l ++ [(⟨a, b⟩ : S31)]) of1 u ((u.length : Int) != (N : Int)) else antecedentlaw12_CompsMore.j1 k l N (l ++ [(⟨a, b⟩ : S31)]) of1 u true) he2 ?_))
    · simp only [antecedentlaw12_CompsMore.j0, Option.bind_some, List.nil_append]
      rw [if_neg (by simp), if_pos (by simp only [List.length_nil]; omega), if_pos (by omega), e]
    · exact Ev.congr (fun k => if_pos (by omega)) g1
end Go.Proofs.Ytigpeemgnocdhaa.Pure
