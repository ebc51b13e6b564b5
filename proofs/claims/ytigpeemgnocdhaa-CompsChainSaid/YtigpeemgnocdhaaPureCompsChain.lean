/- CompsChain's pure statement: of a chain's nodes the last one's component is 0, of a ring's all are one; no condition beyond the statement's own. -/
import Derived.OpenShut
import Derived.Test.YtigpeemgnocdhaaPZc12
import Derived.Test.YtigpeemgnocdhaaCoreE
namespace Go.Proofs.Ytigpeemgnocdhaa.Pure
open Go.RowKit Go.Proofs.Ytigpeemgnocdhaa.PZ Go.Proofs.Ytigpeemgnocdhaa.Core Go.Proofs.YtigpeemgnocdhaaW.PrintWords Go.Proofs.YtigpeemgnocdhaaW.PrintLast Go.Proofs.YtigpeemgnocdhaaW.PrintMore
set_option linter.unusedVariables false
set_option linter.unusedSectionVars false

namespace chain
theorem awake_ev : Ev (fun k => antecedentlaw12_awake.f k) true := Ev.of (fun k => antecedentlaw12_awake.mono k) (k := 60) (by decide +kernel)

/-- A rising list within a rising list is no longer. -/
theorem rise_len : ∀ (r2 r1 : List Int), r2.Pairwise (· < ·) → r1.Pairwise (· < ·) → (∀ y ∈ r1, y ∈ r2) → r1.length ≤ r2.length
  | _, [], _, _, _ => by simp
  | [], a :: s, _, _, h => by have := h a (by simp); simp at this
  | b :: t, a :: s, h2, h1, h => by
    rw [List.pairwise_cons] at h2
    have h1' := List.pairwise_cons.1 h1
    by_cases e : a = b
    · have := rise_len t s h2.2 h1'.2 fun y hy => by
        have h3 := h1'.1 y hy
        have h4 := h y (by simp [hy])
        rw [List.mem_cons] at h4
        rcases h4 with h4 | h4
        · omega
        · exact h4
      simp only [List.length_cons]
      omega
    · have ha : a ∈ t := by
        have h4 := h a (by simp)
        rw [List.mem_cons] at h4
        rcases h4 with h4 | h4
        · exact absurd h4 e
        · exact h4
      have hba := h2.1 a ha
      have := rise_len t (a :: s) h2.2 h1 fun y hy => by
        have h4 := h y hy
        rw [List.mem_cons] at h4 hy
        rcases h4 with h4 | h4
        · rcases hy with h5 | h5
          · omega
          · have := h1'.1 y h5; omega
        · exact h4
      simp only [List.length_cons] at this ⊢
      omega

def ch (n : Nat) : List S31 := (List.range (n - 1)).map fun (j : Nat) => (⟨(j : Int), (j : Int) + 1⟩ : S31)
theorem ch_len (n : Nat) : (ch n).length = n - 1 := by simp [ch]
theorem ch_mem (n : Nat) (x : S31) : x ∈ ch n ↔ ∃ j, j < n - 1 ∧ x = ⟨(j : Int), (j : Int) + 1⟩ := by
  unfold ch
  rw [List.mem_map]
  constructor
  · rintro ⟨j, hj, e⟩; exact ⟨j, List.mem_range.1 hj, e.symm⟩
  · rintro ⟨j, hj, e⟩; exact ⟨j, List.mem_range.2 hj, e.symm⟩
theorem ch_succ (n : Nat) (h : 1 ≤ n) : ch (n + 1) = ch n ++ [(⟨((n - 1 : Nat) : Int), (n : Int)⟩ : S31)] := by
  obtain ⟨m, rfl⟩ : ∃ m, n = m + 1 := ⟨n - 1, by omega⟩
  unfold ch
  simp only [Nat.add_sub_cancel]
  rw [List.range_succ, List.map_append]
  simp

theorem edge_ch (N a b : Nat) : Core.Edge N (ch N) a b ↔ b = a + 1 ∧ b < N := by
  constructor
  · rintro ⟨ha, hb, x, hx, h1, h2⟩
    obtain ⟨j, hj, rfl⟩ := (ch_mem _ _).1 hx
    simp only at h1 h2
    omega
  · rintro ⟨h1, h2⟩
    exact ⟨by omega, h2, ⟨(a : Int), (a : Int) + 1⟩, (ch_mem _ _).2 ⟨a, by omega, rfl⟩, rfl, by show (a : Int) + 1 = (b : Int); omega⟩
theorem r_le {N a b : Nat} (h : R (Core.Edge N (ch N)) a b) : a ≤ b := by
  induction h with
  | refl => exact Nat.le_refl _
  | step _ e ih => have := ((edge_ch _ _ _).1 e).1; omega
theorem le_r (N a : Nat) : ∀ d, a + d < N → R (Core.Edge N (ch N)) a (a + d)
  | 0, _ => .refl
  | d + 1, h => (le_r N a d (by omega)).step ((edge_ch _ _ _).2 ⟨by omega, h⟩)
theorem r_iff {N a b : Nat} (hb : b < N) : R (Core.Edge N (ch N)) a b ↔ a ≤ b := by
  refine ⟨r_le, fun h => ?_⟩
  have := le_r N a (b - a) (by omega)
  rwa [show a + (b - a) = b by omega] at this

theorem good_ch (N : Nat) : Core.Good N (Core.Edge N (ch N)) (fun i => (N : Int) - 1 - i) := by
  refine ⟨?_, ?_, ?_, ?_⟩
  · intro i j hi hj
    unfold Mut
    rw [r_iff hj, r_iff hi]
    show (N : Int) - 1 - i = (N : Int) - 1 - j ↔ _
    omega
  · intro i hi
    show 0 ≤ (N : Int) - 1 - i
    omega
  · intro i hi
    refine ⟨i, hi, rfl, ⟨Int.le_refl _, fun k hk hr => ?_⟩, fun j hj hf => ?_⟩
    · have := r_le hr
      by_cases e : k = i
      · subst e; exact .inl .refl
      · right
        show (N : Int) - 1 - k < (N : Int) - 1 - i
        omega
    · rcases hf.2 i hi ((r_iff hi).2 (by omega)) with h1 | h1
      · have := r_le h1; omega
      · exact absurd h1 (Int.lt_irrefl _)
  · intro i hi m h0 h1
    have h1' : m < (N : Int) - 1 - i := h1
    refine ⟨N - 1 - m.toNat, by omega, ?_⟩
    show (N : Int) - 1 - ((N - 1 - m.toNat : Nat) : Int) = m
    omega

theorem ring (N : Nat) (hN : 1 ≤ N) (a b : Nat) (ha : a < N) (hb : b < N) : R (Core.Edge N (ch N ++ [(⟨((N : Int) - 1), 0⟩ : S31)])) a b := by
  have up : ∀ x y, Core.Edge N (ch N) x y → Core.Edge N (ch N ++ [(⟨((N : Int) - 1), 0⟩ : S31)]) x y := by
    rintro x y ⟨h1, h2, z, hz, h3, h4⟩
    exact ⟨h1, h2, z, by simp [hz], h3, h4⟩
  have h1 : R (Core.Edge N (ch N)) a (N - 1) := (r_iff (by omega)).2 (by omega)
  have h2 : R (Core.Edge N (ch N)) 0 b := (r_iff hb).2 (by omega)
  have h3 : Core.Edge N (ch N ++ [(⟨((N : Int) - 1), 0⟩ : S31)]) (N - 1) 0 := ⟨by omega, by omega, ⟨(N : Int) - 1, 0⟩, by simp, by show (N : Int) - 1 = ((N - 1 : Nat) : Int); omega, rfl⟩
  exact ((h1.mono up).step h3).trans (h2.mono up)

theorem Reach_none (N : Nat) (hN : N ≤ 1000) (l : List S31) (hl : l.length ≤ 100000) : Ev (fun k => comps_Reach.f k (N : Int) l (N : Int)) [] := by
  have hmk : ∀ i, ¬ Mk (List.replicate N false) i := by
    intro i h
    unfold Mk at h
    rw [List.getD_eq_getElem?_getD, List.getElem?_replicate] at h
    split at h <;> simp at h
  obtain ⟨r, hr, h1, h2, h3⟩ := collect_ev N hN (List.replicate N false) (by simp) N 0 [] (by omega) rfl (by intro y; simp; intro h1 h2; omega) (by simp) List.Pairwise.nil
  obtain rfl : r = [] := List.eq_nil_iff_forall_not_mem.2 fun y hy => hmk _ ((h1 y).1 hy).2.2
  unfold comps_Reach.f
  refine Ev.congr (f := fun k => (comps_lists.f k (N : Int) l false).bind fun t => (comps_seen.f k t N).bind fun u => comps_Reach.l0 k [] u (u.length : Int) 0) (fun k => ?_) ?_
  · rw [held_ev N hN]; rfl
  · refine Ev.bind (f := fun k t => (comps_seen.f k t N).bind fun u => comps_Reach.l0 k [] u (u.length : Int) 0) (Lists_ev false N hN l hl) ?_
    have hsn := seen_none (adj false N l l.length) (by rw [adj_len]; exact hN) (N : Int) (by rw [adj_len]; omega)
    rw [adj_len] at hsn
    refine Ev.bind (f := fun k u => comps_Reach.l0 k [] u (u.length : Int) 0) hsn ?_
    rw [List.length_replicate]; exact hr

theorem Comps_neg (l : List S31) (hl : l.length ≤ 100000) : Ev (fun k => comps_Comps.f k (-1) l) [] := by
  obtain ⟨of, hof, ho⟩ := Comps_ev 0 (by omega) l hl
  obtain rfl : of = [] := List.eq_nil_of_length_eq_zero ho.1
  refine Ev.congr (fun k => ?_) hof
  unfold comps_Comps.f
  rw [show comps_held.f (-1) = comps_held.f ((0 : Nat) : Int) from by decide]

theorem all_ev (N : Nat) (hN : N ≤ 1000) (h1 : 1 ≤ N) (of1 of2 : List Int) (hl1 : of1.length = N) (hl2 : of2.length = N) (hv1 : ∀ i, i < N → rd of1 (i : Int) = (N : Int) - 1 - i) (hv2 : ∀ i, i < N → rd of2 (i : Int) = 0) (d : Nat) :
    ∀ i, i ≤ N → N - i = d → Ev (fun k => antecedentlaw12_CompsChain.l1 k N (ch N) of1 of2 N i) true := by
  have hcl := ch_len N
  induction d with
  | zero =>
    intro i hi hd
    obtain ⟨r, hr, hc⟩ := Reach_ev N hN (ch N) (by omega) 0 (by omega)
    have hrl : r.length = N := by
      have h2 := rise_len r ((List.range N).map fun (j : Nat) => (j : Int)) hc.rise (by
        rw [List.pairwise_map]
        exact List.Pairwise.imp (fun h => by omega) List.pairwise_lt_range) (by
        intro y hy
        rw [List.mem_map] at hy
        obtain ⟨j, hj, rfl⟩ := hy
        rw [List.mem_range] at hj
        exact (hc.mem _).2 ⟨by omega, by omega, by rw [Int.toNat_natCast]; exact (r_iff hj).2 (by omega)⟩)
      have h3 := hc.len
      rw [List.length_map, List.length_range] at h2
      omega
    refine Ev.step (f := fun k => (comps_Reach.f k N (ch N) 0).bind fun t => if (t.length : Int) = N then (comps_Reach.f k N (ch N) N).bind fun u => if (u.length : Int) = 0 then (comps_Comps.f k (-1) (ch N)).bind fun v => some ((v.length : Int) == 0) else some false else some false) (fun k => ?_)
      (Ev.bind (f := fun k t => if (t.length : Int) = N then (comps_Reach.f k N (ch N) N).bind fun u => if (u.length : Int) = 0 then (comps_Comps.f k (-1) (ch N)).bind fun v => some ((v.length : Int) == 0) else some false else some false) hr
        (Ev.congr (f := fun k => (comps_Reach.f k N (ch N) N).bind fun u => if (u.length : Int) = 0 then (comps_Comps.f k (-1) (ch N)).bind fun v => some ((v.length : Int) == 0) else some false) (fun k => if_pos (by omega))
          (Ev.bind (f := fun k u => if (u.length : Int) = 0 then (comps_Comps.f k (-1) (ch N)).bind fun v => some ((v.length : Int) == 0) else some false) (Reach_none N hN (ch N) (by omega))
            (Ev.congr (f := fun k => (comps_Comps.f k (-1) (ch N)).bind fun v => some ((v.length : Int) == 0)) (fun k => if_pos rfl)
              (Ev.bind (f := fun _ v => some ((v.length : Int) == 0)) (a := ([] : List Int)) (Comps_neg (ch N) (by omega)) (show Ev (fun _ => some (((([] : List Int).length : Int)) == 0)) true from Ev.now true))))))
    simp only [antecedentlaw12_CompsChain.l1]
    rw [if_neg (by omega)]
  | succ d ih =>
    intro i hi hd
    have hw := Aside0.mk (show wrap64 ((i : Int) + 1) = ((i + 1 : Nat) : Int) by rw [wrap_id (by omega) (by omega)]; rfl)
    have hv := Aside0.mk (show wrap64 ((wrap64 ((N : Int) - 1)) - (i : Int)) = (N : Int) - 1 - i by rw [wrap_id (x := (N : Int) - 1) (by omega) (by omega), wrap_id (by omega) (by omega)])
    refine Ev.step (fun k => ?_) (ih (i + 1) (by omega) (by omega))
    simp only [antecedentlaw12_CompsChain.l1]
    rw [if_pos (by omega), if_pos (by omega), if_pos (by omega), if_pos (by rw [hv.out]; exact hv1 i (by omega)), if_pos (by omega), if_pos (hv2 i (by omega)), hw.out]

theorem made_ev (N : Nat) (hN : N ≤ 1000) (h1 : 1 ≤ N) : Ev (fun k => antecedentlaw12_CompsChain.l0 k N (ch N) N) true := by
  have hcl := ch_len N
  obtain ⟨of1, he1, ho1⟩ := Comps_ev N hN (ch N) (by omega)
  obtain ⟨of2, he2, ho2⟩ := Comps_ev N hN (ch N ++ [(⟨((N : Int) - 1), 0⟩ : S31)]) (by rw [List.length_append, List.length_singleton]; omega)
  have hl1 := ho1.1
  have hl2 := ho2.1
  have hv1 := ho1.2.unique (good_ch N)
  have heq : ∀ i j, i < N → j < N → rd of2 (i : Int) = rd of2 (j : Int) := fun i j hi hj => (ho2.2.cls i j hi hj).2 ⟨ring N h1 i j hi hj, ring N h1 j i hj hi⟩
  have hv2 : ∀ i, i < N → rd of2 (i : Int) = 0 := by
    intro i hi
    have hnn := ho2.2.nn i hi
    by_cases e : rd of2 (i : Int) = 0
    · exact e
    · have hnn' : 0 ≤ rd of2 (i : Int) := hnn
      obtain ⟨j, hj, hj0⟩ := ho2.2.full i hi 0 (by omega) (by show 0 < rd of2 (i : Int); omega)
      have hj0' : rd of2 (j : Int) = 0 := hj0
      rw [heq i j hi hj]
      exact hj0'
  have hw := Aside0.mk (show wrap64 ((N : Int) - 1) = (N : Int) - 1 from wrap_id (by omega) (by omega))
  have go := all_ev N hN h1 of1 of2 hl1 hl2 hv1 hv2 _ 0 (by omega) rfl
  have g1 : Ev (fun k => antecedentlaw12_CompsChain.j2 k N (ch N) of1 of2 ((of2.length : Int) != (N : Int))) true := by
    refine Ev.step (fun k => ?_) go
    simp only [antecedentlaw12_CompsChain.j2]
    rw [if_neg (by rw [hl2]; simp)]
    rfl
  refine Ev.step (f := fun k => (comps_Comps.f k N (ch N)).bind fun t => (comps_Comps.f k N (ch N ++ [(⟨((N : Int) - 1), 0⟩ : S31)])).bind fun u => if (t.length : Int) = N then antecedentlaw12_CompsChain.j2 k N (ch N) t u ((u.length : Int) != (N : Int)) else antecedentlaw12_CompsChain.j2 k N (ch N) t u true) (fun k => ?_)
    (Ev.bind (f := fun k t => (comps_Comps.f k N (ch N ++ [(⟨((N : Int) - 1), 0⟩ : S31)])).bind fun u => if (t.length : Int) = N then antecedentlaw12_CompsChain.j2 k N (ch N) t u ((u.length : Int) != (N : Int)) else antecedentlaw12_CompsChain.j2 k N (ch N) t u true) he1
      (Ev.bind (f := fun k u => if (of1.length : Int) = N then antecedentlaw12_CompsChain.j2 k N (ch N) of1 u ((u.length : Int) != (N : Int)) else antecedentlaw12_CompsChain.j2 k N (ch N) of1 u true) he2
        (Ev.congr (fun k => if_pos (by omega)) g1)))
  simp only [antecedentlaw12_CompsChain.l0]
  rw [if_neg (by omega), hw.out]
  congr 1
  funext t
  rw [if_pos (by omega)]

theorem build_ev (N : Nat) (hN : N ≤ 1000) (h1 : 1 ≤ N) (d : Nat) : ∀ i, 1 ≤ i → i ≤ N → N - i = d → Ev (fun k => antecedentlaw12_CompsChain.l0 k N (ch i) i) true := by
  induction d with
  | zero =>
    intro i h2 hi hd
    obtain rfl : i = N := by omega
    exact made_ev i hN h1
  | succ d ih =>
    intro i h2 hi hd
    have hcl := ch_len i
    have hw := Aside0.mk (show wrap64 ((i : Int) + 1) = ((i + 1 : Nat) : Int) by rw [wrap_id (by omega) (by omega)]; rfl)
    have hv := Aside0.mk (show wrap64 ((i : Int) - 1) = ((i - 1 : Nat) : Int) by rw [wrap_id (by omega) (by omega)]; omega)
    refine Ev.step (fun k => ?_) (ih (i + 1) (by omega) (by omega) (by omega))
    simp only [antecedentlaw12_CompsChain.l0]
    rw [if_pos (by omega), if_pos (by omega), hw.out, hv.out, ch_succ i h2]
end chain

theorem CompsChain : antecedentlaw12_CompsChain.Pure := by
  intro a0 h0
  refine Ev.rounds ?_
  have hb := bounds_u8 h0
  unfold antecedentlaw12_CompsChain.f
  refine Ev.bind (f := fun k t => if t = true then antecedentlaw12_CompsChain.j0 k a0 (a0 == 0) else antecedentlaw12_CompsChain.j0 k a0 true) chain.awake_ev ?_
  refine Ev.congr (f := fun k => antecedentlaw12_CompsChain.j0 k a0 (a0 == 0)) (fun k => if_pos rfl) ?_
  by_cases e : a0 = 0
  · subst e
    refine Ev.step (f := fun k => (antecedentlaw12_awake.f k).bind fun t => some t) (fun k => ?_) (Ev.bind (f := fun _ t => some t) chain.awake_ev (Ev.now true))
    simp only [antecedentlaw12_CompsChain.j0]
    rw [if_pos (by decide)]
  · obtain ⟨N, rfl⟩ : ∃ N : Nat, a0 = N := ⟨a0.toNat, by omega⟩
    have hw := Aside0.mk (show wrap64 (N : Int) = (N : Int) from wrap_id (by omega) (by omega))
    refine Ev.step (fun k => ?_) (chain.build_ev N (by omega) (by omega) _ 1 (by omega) (by omega) rfl)
    simp only [antecedentlaw12_CompsChain.j0]
    rw [if_neg (by simpa using e), hw.out]
    rfl
end Go.Proofs.Ytigpeemgnocdhaa.Pure
