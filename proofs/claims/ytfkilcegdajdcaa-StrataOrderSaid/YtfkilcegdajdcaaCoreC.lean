
/- comps.Comps as a plain function: it comes to the document's numbering of the components of mutual reach. -/
import Derived.Test.YtfkilcegdajdcaaCoreA
namespace Go.Proofs.Ytfkilcegdajdcaa.Core
open Go.RowKit Go.Proofs.Ytfkilcegdajdcaa.PZ Go.Proofs.YtfkilcegdajdcaaW.PrintWords Go.Proofs.YtfkilcegdajdcaaW.PrintLast Go.Proofs.YtfkilcegdajdcaaW.PrintMore
set_option linter.unusedVariables false
def Ok (N : Nat) (E : Nat → Nat → Prop) (of : List Int) : Prop := of.length = N ∧ Good N E (fun i => rd of i)
section
variable (N : Nat) (l : List S53)
structure G2 (i : Nat) (g : List Int) (gs : List (List Int)) (ld : List Nat) : Prop where
  glen : g.length = N
  gslen : gs.length = ld.length
  many : ld.length ≤ i
  ldr : ∀ q (h : q < ld.length), ld[q] < i ∧ ld[q] < N ∧ rd g (ld[q] : Int) = q
  asc : ∀ p q (hp : p < ld.length) (hq : q < ld.length), p < q → ld[p] < ld[q]
  sep : ∀ p q (hp : p < ld.length) (hq : q < ld.length), Mut (Edge N l) ld[p] ld[q] → p = q
  grp : ∀ k, k < N → rd g (k : Int) = -1 ∨ ∃ q, ∃ h : q < ld.length, rd g (k : Int) = q ∧ Mut (Edge N l) ld[q] k
  cov : ∀ k, k < N → ∀ j, j < i → j < N → Mut (Edge N l) j k → 0 ≤ rd g (k : Int)
  mem : ∀ q, q < ld.length → ∀ y, y ∈ gs.getD q [] ↔ (0 ≤ y ∧ y < N ∧ rd g y = q)
  lens : ∀ q, q < ld.length → (gs.getD q []).length ≤ 1000
  fst : ∀ q (h : q < ld.length), ∀ j, j < N → Mut (Edge N l) j ld[q] → ld[q] ≤ j
theorem rd_cast (xs : List Int) (y : Int) (h : 0 ≤ y) : rd xs y = rd xs (y.toNat : Int) := by unfold rd; rw [Int.toNat_natCast]
variable {N l}
theorem group_ev (hN : N ≤ 1000) (D U : List (List Int)) (i : Nat) (hi : i < N) (below above : List Bool) (hb : below.length = N) (ha : above.length = N)
    (hbm : ∀ j, j < N → (Mk below j ↔ R (Edge N l) i j)) (ham : ∀ j, j < N → (Mk above j ↔ R (Edge N l) j i)) (g0 : List Int) (hg0 : g0.length = N) (gs : List (List Int)) (hgs : gs.length ≤ 1000) (P : List Int → Prop)
    (done : ∀ (g : List Int) (x : List Int), g.length = N → (∀ j, j < N → (Mut (Edge N l) i j → rd g (j : Int) = gs.length) ∧ (¬ Mut (Edge N l) i j → rd g (j : Int) = rd g0 j)) → (∀ y, y ∈ x ↔ (0 ≤ y ∧ y < N ∧ Mut (Edge N l) i y.toNat)) → x.length ≤ 1000 →
      ∃ r, Ev (fun k => comps_Comps.l1 k N U N (i + 1 : Nat) D g (gs ++ [x])) r ∧ P r) (d : Nat) :
    ∀ (n : Nat) (g x : List Int), n ≤ N → N - n = d → g.length = N → (∀ j, j < N → (j < n ∧ Mut (Edge N l) i j → rd g (j : Int) = gs.length) ∧ (¬ (j < n ∧ Mut (Edge N l) i j) → rd g (j : Int) = rd g0 j)) → (∀ y, y ∈ x ↔ (0 ≤ y ∧ y < n ∧ Mut (Edge N l) i y.toNat)) → x.length ≤ n →
      ∃ r, Ev (fun k => comps_Comps.l2 k N U x below above N i N n D g gs) r ∧ P r := by
  induction d with
  | zero =>
    intro n g x hn hd hgl hg hx hxl
    obtain rfl : n = N := by omega
    obtain ⟨r, hr, hP⟩ := done g x hgl (fun j hj => ⟨fun h => (hg j hj).1 ⟨hj, h⟩, fun h => (hg j hj).2 (fun h' => h h'.2)⟩) hx (by omega)
    refine ⟨r, Ev.step (fun k => ?_) hr, hP⟩
    have hw := Aside0.mk (show wrap64 ((i : Int) + 1) = ((i + 1 : Nat) : Int) by rw [wrap_id (by omega) (by omega)]; rfl)
    simp only [comps_Comps.l2]
    rw [if_neg (by omega), if_pos (by omega), hw.out]
  | succ d ih =>
    intro n g x hn hd hgl hg hx hxl
    have hnN : n < N := by omega
    have hw := Aside0.mk (show wrap64 ((n : Int) + 1) = ((n + 1 : Nat) : Int) by rw [wrap_id (by omega) (by omega)]; rfl)
    by_cases hm : Mut (Edge N l) i n
    · obtain ⟨r, hr, hP⟩ := ih (n + 1) (g.set n gs.length) (x ++ [(n : Int)]) (by omega) (by omega) (by rw [List.length_set]; exact hgl) (by
        intro j hj
        rw [rd_set _ _ _ _ (by omega)]
        by_cases e : j = n
        · subst e
          rw [if_pos rfl]
          exact ⟨fun _ => rfl, fun h => absurd ⟨by omega, hm⟩ h⟩
        · rw [if_neg e]
          exact ⟨fun h => (hg j hj).1 ⟨by omega, h.2⟩, fun h => (hg j hj).2 (fun h' => h ⟨by omega, h'.2⟩)⟩) (by
        intro y
        rw [List.mem_append, hx, List.mem_singleton]
        constructor
        · rintro (⟨h1, h2, h3⟩ | h1)
          · exact ⟨h1, by omega, h3⟩
          · subst h1; exact ⟨by omega, by omega, by rw [Int.toNat_natCast]; exact hm⟩
        · rintro ⟨h1, h2, h3⟩
          by_cases e : y = n
          · exact .inr e
          · exact .inl ⟨h1, by omega, h3⟩) (by rw [List.length_append, List.length_singleton]; omega)
      refine ⟨r, Ev.step (fun k => ?_) hr, hP⟩
      simp only [comps_Comps.l2]
      rw [if_pos (by omega), if_pos (by omega), if_pos (by omega), if_pos ((rdOf_mk _ _).2 ((hbm n hnN).2 hm.1)), if_pos (by omega), if_pos ((rdOf_mk _ _).2 ((ham n hnN).2 hm.2)), if_pos (by omega), if_pos (by omega), hw.out, Int.toNat_natCast]
    · obtain ⟨r, hr, hP⟩ := ih (n + 1) g x (by omega) (by omega) hgl (by
        intro j hj
        by_cases e : j = n
        · subst e
          exact ⟨fun h => absurd h.2 hm, fun _ => (hg j hj).2 (fun h' => hm h'.2)⟩
        · exact ⟨fun h => (hg j hj).1 ⟨by omega, h.2⟩, fun h => (hg j hj).2 (fun h' => h ⟨by omega, h'.2⟩)⟩) (by
        intro y
        rw [hx]
        constructor
        · rintro ⟨h1, h2, h3⟩; exact ⟨h1, by omega, h3⟩
        · rintro ⟨h1, h2, h3⟩
          refine ⟨h1, ?_, h3⟩
          by_cases e : y = n
          · subst e; rw [Int.toNat_natCast] at h3; exact absurd h3 hm
          · omega) (by omega)
      refine ⟨r, Ev.step (fun k => ?_) hr, hP⟩
      simp only [comps_Comps.l2]
      rw [if_pos (by omega), if_pos (by omega), if_pos (by omega)]
      by_cases h1 : R (Edge N l) i n
      · rw [if_pos ((rdOf_mk _ _).2 ((hbm n hnN).2 h1)), if_pos (by omega), if_neg (fun h => hm ⟨h1, (ham n hnN).1 ((rdOf_mk _ _).1 h)⟩), hw.out]
      · rw [if_neg (fun h => h1 ((hbm n hnN).1 ((rdOf_mk _ _).1 h))), hw.out]
theorem groups_ev (hN : N ≤ 1000) (hl : l.length ≤ 100000) (P : List Int → Prop)
    (done : ∀ g gs ld, G2 N l N g gs ld → ∃ r, Ev (fun k => comps_Comps.l1 k N (adj true N l l.length) N N (adj false N l l.length) g gs) r ∧ P r) (d : Nat) :
    ∀ i g gs ld, i ≤ N → N - i = d → G2 N l i g gs ld → ∃ r, Ev (fun k => comps_Comps.l1 k N (adj true N l l.length) N i (adj false N l l.length) g gs) r ∧ P r := by
  induction d with
  | zero =>
    intro i g gs ld hi hd h
    obtain rfl : i = N := by omega
    exact done g gs ld h
  | succ d ih =>
    intro i g gs ld hi hd h
    have hiN : i < N := by omega
    have hglen := h.glen
    have hw := Aside0.mk (show wrap64 ((i : Int) + 1) = ((i + 1 : Nat) : Int) by rw [wrap_id (by omega) (by omega)]; rfl)
    by_cases hc : 0 ≤ rd g (i : Int)
    · obtain ⟨r, hr, hP⟩ := ih (i + 1) g gs ld (by omega) (by omega) ⟨h.glen, h.gslen, by have := h.many; omega, fun q hq => by obtain ⟨h1, h2, h3⟩ := h.ldr q hq; exact ⟨by omega, h2, h3⟩, h.asc, h.sep, h.grp, by
          intro k hk j hj hjN hm
          by_cases e : j = i
          · subst e
            rcases h.grp j hjN with h1 | ⟨q, hq, h1, h2⟩
            · omega
            · obtain ⟨h3, h4, _⟩ := h.ldr q hq
              exact h.cov k hk _ h3 h4 (h2.trans hm)
          · exact h.cov k hk j (by omega) hjN hm, h.mem, h.lens, h.fst⟩
      refine ⟨r, Ev.step (fun k => ?_) hr, hP⟩
      simp only [comps_Comps.l1]
      rw [if_pos (by omega), if_pos (by omega), if_pos (by omega), if_pos (show rd g (i : Int) ≥ 0 from hc), hw.out]
    · have hneg : rd g (i : Int) = -1 := by
        rcases h.grp i hiN with h1 | ⟨q, hq, h1, _⟩
        · exact h1
        · omega
      have hnot : ∀ j, j < i → ¬ Mut (Edge N l) j i := fun j hj hm => hc (h.cov i hiN j hj (by omega) hm)
      obtain ⟨below, hbe, hbl, hbm⟩ := down_ev N hN l hl i hiN
      obtain ⟨above, hae, hal, ham⟩ := up_ev N hN l hl i hiN
      have hmany := h.many
      have hgsl := h.gslen
      obtain ⟨r, hr, hP⟩ := group_ev hN (adj false N l l.length) (adj true N l l.length) i hiN below above hbl hal hbm ham g hglen gs (by omega) P (by
        intro g' x hg' hgv hx hxl
        refine ih (i + 1) g' (gs ++ [x]) (ld ++ [i]) (by omega) (by omega) ?_
        have hold : ∀ k, k < N → rd g (k : Int) ≥ 0 → rd g' (k : Int) = rd g k := by
          intro k hk hk0
          refine (hgv k hk).2 fun hm => ?_
          rcases h.grp k hk with h1 | ⟨q, hq, h1, h2⟩
          · omega
          · obtain ⟨h3, h4, _⟩ := h.ldr q hq
            exact hnot _ h3 (h2.trans hm.symm)
        have hval : ∀ k, k < N → (Mut (Edge N l) i k ∧ rd g' (k : Int) = gs.length) ∨ (¬ Mut (Edge N l) i k ∧ rd g' (k : Int) = rd g k) := by
          intro k hk
          by_cases hm : Mut (Edge N l) i k
          · exact .inl ⟨hm, (hgv k hk).1 hm⟩
          · exact .inr ⟨hm, (hgv k hk).2 hm⟩
        have hlt : ∀ k, k < N → rd g (k : Int) < gs.length := by
          intro k hk
          rcases h.grp k hk with h1 | ⟨q, hq, h1, _⟩
          · omega
          · omega
        refine ⟨hg', by simp [hgsl], by rw [List.length_append, List.length_singleton]; omega, ?_, ?_, ?_, ?_, ?_, ?_, ?_, ?_⟩
        · intro q hq
          rw [List.length_append, List.length_singleton] at hq
          by_cases e : q < ld.length
          · rw [List.getElem_append_left e]
            obtain ⟨h1, h2, h3⟩ := h.ldr q e
            exact ⟨by omega, h2, by rw [hold _ h2 (by omega), h3]⟩
          · obtain rfl : q = ld.length := by omega
            rw [List.getElem_append_right (Nat.le_refl _)]
            simp only [Nat.sub_self, List.getElem_cons_zero]
            exact ⟨by omega, hiN, by rw [(hgv i hiN).1 (Mut.refl _ _), hgsl]⟩
        · intro p q hp hq hpq
          rw [List.length_append, List.length_singleton] at hp hq
          have hpl : p < ld.length := by omega
          rw [List.getElem_append_left hpl]
          by_cases e : q < ld.length
          · rw [List.getElem_append_left e]; exact h.asc p q hpl e hpq
          · obtain rfl : q = ld.length := by omega
            rw [List.getElem_append_right (Nat.le_refl _)]
            simp only [Nat.sub_self, List.getElem_cons_zero]
            exact (h.ldr p hpl).1
        · intro p q hp hq hm
          rw [List.length_append, List.length_singleton] at hp hq
          by_cases e1 : p < ld.length
          · rw [List.getElem_append_left e1] at hm
            by_cases e2 : q < ld.length
            · rw [List.getElem_append_left e2] at hm; exact h.sep p q e1 e2 hm
            · obtain rfl : q = ld.length := by omega
              rw [List.getElem_append_right (Nat.le_refl _)] at hm
              simp only [Nat.sub_self, List.getElem_cons_zero] at hm
              exact absurd hm (hnot _ (h.ldr p e1).1)
          · obtain rfl : p = ld.length := by omega
            rw [List.getElem_append_right (Nat.le_refl _)] at hm
            simp only [Nat.sub_self, List.getElem_cons_zero] at hm
            by_cases e2 : q < ld.length
            · rw [List.getElem_append_left e2] at hm
              exact absurd hm.symm (hnot _ (h.ldr q e2).1)
            · omega
        · intro k hk
          rcases hval k hk with ⟨hm, hv⟩ | ⟨hm, hv⟩
          · refine .inr ⟨ld.length, by simp, by rw [hv, hgsl], ?_⟩
            rw [List.getElem_append_right (Nat.le_refl _)]
            simp only [Nat.sub_self, List.getElem_cons_zero]
            exact hm
          · rcases h.grp k hk with h1 | ⟨q, hq, h1, h2⟩
            · exact .inl (by rw [hv, h1])
            · exact .inr ⟨q, by rw [List.length_append]; omega, by rw [hv, h1], by rw [List.getElem_append_left hq]; exact h2⟩
        · intro k hk j hj hjN hm
          rcases hval k hk with ⟨hm', hv⟩ | ⟨hm', hv⟩
          · rw [hv]; omega
          · have hji : j ≠ i := fun e => hm' (e ▸ hm)
            rw [hv]
            exact h.cov k hk j (by omega) hjN hm
        · intro q hq y
          rw [List.length_append, List.length_singleton] at hq
          by_cases e : q < ld.length
          · have hget : (gs ++ [x]).getD q [] = gs.getD q [] := by
              rw [List.getD_eq_getElem?_getD, List.getElem?_append_left (by omega), ← List.getD_eq_getElem?_getD]
            rw [hget, h.mem q e y]
            constructor
            · rintro ⟨h1, h2, h3⟩
              refine ⟨h1, h2, ?_⟩
              rw [rd_cast _ _ h1] at h3 ⊢
              rw [hold _ (by omega) (by omega), h3]
            · rintro ⟨h1, h2, h3⟩
              refine ⟨h1, h2, ?_⟩
              rw [rd_cast _ _ h1] at h3 ⊢
              rcases hval y.toNat (by omega) with ⟨_, hv⟩ | ⟨_, hv⟩
              · omega
              · rw [← hv, h3]
          · obtain rfl : q = ld.length := by omega
            have hget : (gs ++ [x]).getD ld.length [] = x := by
              rw [List.getD_eq_getElem?_getD, List.getElem?_append_right (by omega), hgsl]; simp
            rw [hget, hx y]
            constructor
            · rintro ⟨h1, h2, h3⟩
              refine ⟨h1, h2, ?_⟩
              rw [rd_cast _ _ h1, (hgv _ (by omega)).1 h3, hgsl]
            · rintro ⟨h1, h2, h3⟩
              refine ⟨h1, h2, ?_⟩
              rw [rd_cast _ _ h1] at h3
              rcases hval y.toNat (by omega) with ⟨hm, hv⟩ | ⟨_, hv⟩
              · exact hm
              · have := hlt y.toNat (by omega)
                omega
        · intro q hq
          rw [List.length_append, List.length_singleton] at hq
          by_cases e : q < ld.length
          · have hget : (gs ++ [x]).getD q [] = gs.getD q [] := by
              rw [List.getD_eq_getElem?_getD, List.getElem?_append_left (by omega), ← List.getD_eq_getElem?_getD]
            rw [hget]
            exact h.lens q e
          · obtain rfl : q = ld.length := by omega
            have hget : (gs ++ [x]).getD ld.length [] = x := by
              rw [List.getD_eq_getElem?_getD, List.getElem?_append_right (by omega), hgsl]; simp
            rw [hget]
            exact hxl
        · intro q hq j hj hm
          rw [List.length_append, List.length_singleton] at hq
          by_cases e : q < ld.length
          · rw [List.getElem_append_left e] at hm ⊢
            exact h.fst q e j hj hm
          · obtain rfl : q = ld.length := by omega
            rw [List.getElem_append_right (Nat.le_refl _)] at hm ⊢
            simp only [Nat.sub_self, List.getElem_cons_zero] at hm ⊢
            exact Nat.le_of_not_lt fun hlt' => hnot j hlt' hm) _ 0 g [] (by omega) rfl hglen (fun j hj => ⟨fun h' => by omega, fun _ => rfl⟩) (fun y => ⟨fun h' => by simp at h', fun h' => by obtain ⟨h1, h2, _⟩ := h'; omega⟩) (by simp)
      refine ⟨r, Ev.step (fun k => ?_) (Ev.bind (f := fun k t => (comps_seen.f k (adj true N l l.length) (i : Int)).bind fun t' => comps_Comps.l2 k N (adj true N l l.length) [] t t' N i N ((0 : Nat) : Int) (adj false N l l.length) g gs) hbe (Ev.bind (f := fun k t' => comps_Comps.l2 k N (adj true N l l.length) [] below t' N i N ((0 : Nat) : Int) (adj false N l l.length) g gs) hae hr)), hP⟩
      simp only [comps_Comps.l1]
      rw [if_pos (by omega), if_pos (by omega), if_pos (by omega), if_neg (by omega)]
      rfl
end
def nof (g num : List Int) (k : Nat) : Int := rd num (rd g (k : Int))
structure G4 (N : Nat) (l : List S53) (g : List Int) (ld : List Nat) (m : Nat) (num : List Int) : Prop where
  nlen : num.length = ld.length
  rng : ∀ q, q < ld.length → rd num (q : Int) = -1 ∨ (0 ≤ rd num (q : Int) ∧ rd num (q : Int) < m)
  inj : ∀ p q, p < ld.length → q < ld.length → 0 ≤ rd num (p : Int) → rd num (p : Int) = rd num (q : Int) → p = q
  sur : ∀ x : Int, 0 ≤ x → x < m → ∃ q, q < ld.length ∧ rd num (q : Int) = x
  cnt : num.count (-1) + m = ld.length
  ok : ∀ q (h : q < ld.length), 0 ≤ rd num (q : Int) → ∀ k, k < N → R (Edge N l) ld[q] k → rd g (k : Int) = q ∨ (0 ≤ nof g num k ∧ nof g num k < rd num (q : Int))
  least : ∀ q, q < ld.length → 0 ≤ rd num (q : Int) → ∀ p (hp : p < ld.length), p < q → (0 ≤ rd num (p : Int) ∧ rd num (p : Int) < rd num (q : Int)) ∨ ∃ k, k < N ∧ R (Edge N l) ld[p] k ∧ rd g (k : Int) ≠ p ∧ ¬ (0 ≤ nof g num k ∧ nof g num k < rd num (q : Int))
section
variable {N : Nat} {l : List S53} {g : List Int} {gs : List (List Int)} {ld : List Nat}
theorem G2.all (h : G2 N l N g gs ld) (k : Nat) (hk : k < N) : ∃ q, ∃ hq : q < ld.length, rd g (k : Int) = q ∧ Mut (Edge N l) ld[q] k := by
  have h0 := h.cov k hk k hk hk (Mut.refl _ _)
  rcases h.grp k hk with h1 | h1
  · omega
  · exact h1
theorem G2.one (h : G2 N l N g gs ld) (j k : Nat) (hj : j < N) (hk : k < N) : rd g (j : Int) = rd g (k : Int) ↔ Mut (Edge N l) j k := by
  obtain ⟨p, hp, e1, m1⟩ := h.all j hj
  obtain ⟨q, hq, e2, m2⟩ := h.all k hk
  constructor
  · intro e
    have : p = q := by omega
    subst this
    exact m1.symm.trans m2
  · intro m
    have := h.sep p q hp hq (m1.trans (m.trans m2.symm))
    omega
theorem free_ev (hN : N ≤ 1000) (h : G2 N l N g gs ld) {num : List Int} {m : Nat} (hn : G4 N l g ld m num) (q : Nat) (hq : q < ld.length) :
    ∃ b, comps_free.f q num gs (adj false N l l.length) g = some b ∧ (b = true ↔ (rd num (q : Int) = -1 ∧ ∀ k, k < N → R (Edge N l) ld[q] k → rd g (k : Int) = q ∨ 0 ≤ nof g num k)) := by
  have hnl := hn.nlen
  have hgl := h.glen
  have hgsl := h.gslen
  obtain ⟨hl1, hl2, hl3⟩ := h.ldr q hq
  unfold comps_free.f
  rw [if_pos ⟨by omega, by omega⟩]
  by_cases hneg : rd num (q : Int) < 0
  · have hm1 : rd num (q : Int) = -1 := by rcases hn.rng q hq with h1 | h1 <;> omega
    rw [if_pos hneg, if_pos (by omega)]
    -- the inner predicate
    have hin : ∀ a, a < N → ∀ y ∈ rd_L7 (adj false N l l.length) (a : Int), ∃ b, freeIn num g q y = some b ∧ (b = true ↔ (rd g y ≠ q ∧ nof g num y.toNat < 0)) ∧ 0 ≤ y ∧ y < N := by
      intro a ha y hy
      have hr := adj_in false N l a (by rw [adj_len]; exact ha) y hy
      rw [adj_len] at hr
      have hc := rd_cast g y hr.1
      obtain ⟨p, hp, e1, _⟩ := h.all y.toNat (by omega)
      unfold freeIn
      rw [if_pos ⟨hr.1, by omega⟩]
      by_cases e : rd g y = q
      · rw [if_pos e]
        exact ⟨false, rfl, by simp [e], hr⟩
      · rw [if_neg e, if_pos ⟨by omega, by omega⟩]
        refine ⟨_, rfl, ?_, hr⟩
        rw [decide_eq_true_iff]
        unfold nof
        rw [← hc]
        exact ⟨fun h => ⟨e, h⟩, fun h => h.2⟩
    have hat : ∀ a ∈ rd_L7 gs (q : Int), ∃ b, freeAt num (adj false N l l.length) g q a = some b ∧ (b = true ↔ ∃ y ∈ rd_L7 (adj false N l l.length) a, rd g y ≠ q ∧ nof g num y.toNat < 0) := by
      intro a ha
      have hma := (h.mem q hq a).1 ha
      obtain ⟨a0, a1, a2⟩ := hma
      have hac : a = (a.toNat : Int) := by omega
      have hq2 : ∀ y ∈ rd_L7 (adj false N l l.length) a, ∃ b, freeIn num g q y = some b := by
        intro y hy
        rw [hac] at hy
        obtain ⟨b, hb, _⟩ := hin a.toNat (by omega) y hy
        exact ⟨b, hb⟩
      obtain ⟨b, hb, hbi⟩ := anyO_spec (freeIn num g q) _ hq2
      refine ⟨b, ?_, hbi.trans ?_⟩
      · unfold freeAt
        rw [adj_len, if_pos ⟨a0, by omega⟩]
        exact hb
      · constructor
        · rintro ⟨y, hy, e⟩
          have hy' := hy
          rw [hac] at hy'
          obtain ⟨b', hb', hbi', _⟩ := hin a.toNat (by omega) y hy'
          rw [e] at hb'
          injection hb' with hb'
          exact ⟨y, hy, hbi'.1 hb'.symm⟩
        · rintro ⟨y, hy, e⟩
          have hy' := hy
          rw [hac] at hy'
          obtain ⟨b', hb', hbi', _⟩ := hin a.toNat (by omega) y hy'
          have := hbi'.2 e
          rw [this] at hb'
          exact ⟨y, hy, hb'⟩
    obtain ⟨b, hb, hbi⟩ := anyO_spec (freeAt num (adj false N l l.length) g q) (rd_L7 gs q) (fun a ha => by obtain ⟨b, hb, _⟩ := hat a ha; exact ⟨b, hb⟩)
    refine ⟨!b, by rw [hb]; rfl, ?_⟩
    have hbi2 : b = true ↔ ∃ a ∈ rd_L7 gs (q : Int), ∃ y ∈ rd_L7 (adj false N l l.length) a, rd g y ≠ q ∧ nof g num y.toNat < 0 := by
      rw [hbi]
      constructor
      · rintro ⟨a, ha, e⟩
        obtain ⟨b', hb', hbi'⟩ := hat a ha
        rw [e] at hb'
        injection hb' with hb'
        exact ⟨a, ha, hbi'.1 hb'.symm⟩
      · rintro ⟨a, ha, e⟩
        obtain ⟨b', hb', hbi'⟩ := hat a ha
        have := hbi'.2 e
        rw [this] at hb'
        exact ⟨a, ha, hb'⟩
    constructor
    · intro hnb
      have hnb' : b = false := by simpa using hnb
      refine ⟨hm1, fun k hk hr => ?_⟩
      have hstep : ∀ a c, a < N → c < N → (rd g (a : Int) = q ∨ 0 ≤ nof g num a) → Edge N l a c → rd g (c : Int) = q ∨ 0 ≤ nof g num c := by
        intro a c ha hc hor he
        rcases hor with e | e
        · by_cases e2 : rd g (c : Int) = q
          · exact .inl e2
          · refine .inr ?_
            by_cases hnn : 0 ≤ nof g num c
            · exact hnn
            · exfalso
              have : b = true := hbi2.2 ⟨a, (h.mem q hq a).2 ⟨by omega, by omega, e⟩, c, by
                have := (adj_edge N l a c).2 he
                exact this.2, e2, by rw [Int.toNat_natCast]; omega⟩
              rw [hnb'] at this
              cases this
        · obtain ⟨p, hp, e1, m1⟩ := h.all a ha
          unfold nof at e
          rw [e1] at e
          rcases hn.ok p hp e c hc (m1.1.step he) with h1 | h1
          · right
            unfold nof
            rw [h1]
            exact e
          · exact .inr h1.1
      have hcl : k < N ∧ (rd g (k : Int) = q ∨ 0 ≤ nof g num k) := by
        refine R.closed (p := fun x => x < N ∧ (rd g (x : Int) = q ∨ 0 ≤ nof g num x)) ?_ hr ⟨hl2, .inl hl3⟩
        rintro a c ⟨ha, hor⟩ he
        exact ⟨he.2.1, hstep a c ha he.2.1 hor he⟩
      exact hcl.2
    · rintro ⟨_, hall⟩
      have : ¬ b = true := by
        intro hb1
        obtain ⟨a, ha, y, hy, e1, e2⟩ := hbi2.1 hb1
        obtain ⟨a0, a1, a2⟩ := (h.mem q hq a).1 ha
        have hac : a = (a.toNat : Int) := by omega
        have hr := adj_in false N l a.toNat (by rw [adj_len]; omega) y hy
        rw [adj_len] at hr
        have he : Edge N l a.toNat y.toNat := (adj_edge N l a.toNat y.toNat).1 ⟨by rw [adj_len]; omega, by rw [Int.toNat_of_nonneg hr.1]; exact hy⟩
        have hga : rd g (a.toNat : Int) = q := by rw [← hac]; exact a2
        have hml : Mut (Edge N l) ld[q] a.toNat := (h.one _ _ hl2 (by omega)).1 (by rw [hl3, hga])
        rcases hall y.toNat (by omega) (hml.1.step he) with h1 | h1
        · rw [← rd_cast g y hr.1] at h1
          exact e1 h1
        · omega
      simpa using this
  · rw [if_neg hneg]
    refine ⟨false, rfl, ?_⟩
    constructor
    · intro h; cases h
    · rintro ⟨h1, _⟩; omega
open Classical in
theorem some_free (h : G2 N l N g gs ld) {num : List Int} {m : Nat} (hn : G4 N l g ld m num) (c : Nat) : ∀ q (hq : q < ld.length), rd num (q : Int) = -1 → (List.range N).countP (fun k => decide (R (Edge N l) ld[q] k)) = c →
    ∃ q, ∃ hq : q < ld.length, rd num (q : Int) = -1 ∧ ∀ k, k < N → R (Edge N l) ld[q] k → rd g (k : Int) = q ∨ 0 ≤ nof g num k := by
  induction c using Nat.strongRecOn with
  | _ c ih =>
    intro q hq hm hc
    by_cases hf : ∀ k, k < N → R (Edge N l) ld[q] k → rd g (k : Int) = q ∨ 0 ≤ nof g num k
    · exact ⟨q, hq, hm, hf⟩
    · obtain ⟨k, hk⟩ := Classical.not_forall.1 hf
      obtain ⟨hkN, hk⟩ := Classical.not_imp.1 hk
      obtain ⟨hr, hk⟩ := Classical.not_imp.1 hk
      obtain ⟨p, hp, e1, m1⟩ := h.all k hkN
      have hne : rd g (k : Int) ≠ q := fun e => hk (.inl e)
      have hpm : rd num (p : Int) = -1 := by
        rcases hn.rng p hp with h1 | h1
        · exact h1
        · exact absurd (.inr (by unfold nof; rw [e1]; exact h1.1)) hk
      obtain ⟨_, hl2, hl3⟩ := h.ldr q hq
      refine ih _ ?_ p hp hpm rfl
      rw [← hc]
      refine cnt_lt _ _ N (fun x hx hd => ?_) ⟨ld[q], hl2, by simpa using R.refl, ?_⟩
      · simp only [decide_eq_true_iff] at hd ⊢
        exact hr.trans (m1.2.trans hd)
      · rw [decide_eq_false_iff_not]
        intro hd
        have : Mut (Edge N l) ld[q] k := ⟨hr, m1.2.trans hd⟩
        have := (h.one _ _ hl2 hkN).2 this
        exact hne (by rw [← this, hl3])
end
end Go.Proofs.Ytfkilcegdajdcaa.Core
