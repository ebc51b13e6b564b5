/- The reference's Comps as a plain function: it comes to the same numbering. -/
import Derived.Test.YtigpeemgnocdhaaCoreF
namespace Go.Proofs.Ytigpeemgnocdhaa.Core
open Go.RowKit Go.Proofs.Ytigpeemgnocdhaa.PZ Go.Proofs.YtigpeemgnocdhaaW.PrintWords Go.Proofs.YtigpeemgnocdhaaW.PrintLast Go.Proofs.YtigpeemgnocdhaaW.PrintMore
set_option linter.unusedVariables false
set_option linter.unusedSectionVars false

/-- The table of who reaches whom, its first n rows. -/
structure Tb (N : Nat) (E : Nat → Nat → Prop) (n : Nat) (M : List (List Bool)) : Prop where
  len : M.length = n
  row : ∀ i, i < n → (rd_L5 M (i : Int)).length = N
  at_ : ∀ i, i < n → ∀ j, j < N → (Mk (rd_L5 M (i : Int)) j ↔ R E i j)
/-- At stage m, of a numbering G. -/
structure St (N : Nat) (G : Nat → Int) (m c : Nat) (of : List Int) : Prop where
  len : of.length = N
  val : ∀ i, i < N → rd of (i : Int) = if G i < m then G i else -1
  cnt : c + of.count (-1) = N

section
variable {N : Nat} {E : Nat → Nat → Prop} {M : List (List Bool)} {G : Nat → Int}
def FrC (N : Nat) (E : Nat → Nat → Prop) (of : List Int) (j n : Nat) : Prop := rd of (j : Int) < 0 ∧ ∀ k, k < n → R E j k → R E k j ∨ 0 ≤ rd of (k : Int)

theorem FrC.free (hG : Good N E G) {m c : Nat} {of : List Int} (h : St N G m c of) (j : Nat) (hj : j < N) : FrC N E of j N ↔ Free N E G j m := by
  have hn := hG.nn
  have hneg : ∀ i, i < N → (rd of (i : Int) < 0 ↔ (m : Int) ≤ G i) := by
    intro i hi
    rw [h.val i hi]
    have := hn i hi
    split <;> omega
  unfold FrC Free
  rw [hneg j hj]
  constructor
  · rintro ⟨h1, h2⟩
    refine ⟨h1, fun k hk hr => (h2 k hk hr).imp id fun h3 => ?_⟩
    have := (hneg k hk).2
    omega
  · rintro ⟨h1, h2⟩
    refine ⟨h1, fun k hk hr => (h2 k hk hr).imp id fun h3 => ?_⟩
    have := (hneg k hk).1
    omega

theorem flag_ev (hN : N ≤ 1000) (hM : Tb N E N M) (of : List Int) (hof : of.length = N) (m c : Nat) (x10 : Int) (j : Nat) (hj : j < N) (P : List Int → Prop)
    (yes : FrC N E of j N → ∃ r, Ev (fun k => antecedentref12_Comps.l2 k N M of m c j (j + 1 : Nat)) r ∧ P r)
    (no : ¬ FrC N E of j N → ∃ r, Ev (fun k => antecedentref12_Comps.l2 k N M of m c x10 (j + 1 : Nat)) r ∧ P r) (d : Nat) :
    ∀ n b, n ≤ N → N - n = d → (b = true ↔ FrC N E of j n) → ∃ r, Ev (fun k => antecedentref12_Comps.l3 k N M of m c x10 j b n) r ∧ P r := by
  have hml := hM.len
  induction d with
  | zero =>
    intro n b hn hd hb
    obtain rfl : n = N := by omega
    have hw := Aside0.mk (show wrap64 ((j : Int) + 1) = ((j + 1 : Nat) : Int) by rw [wrap_id (by omega) (by omega)]; rfl)
    cases b with
    | true =>
      obtain ⟨r, hr, hP⟩ := yes (hb.1 rfl)
      refine ⟨r, Ev.step (fun k => ?_) hr, hP⟩
      simp only [antecedentref12_Comps.l3]
      rw [if_neg (by omega), if_pos trivial, hw.out]
    | false =>
      obtain ⟨r, hr, hP⟩ := no (fun h => by have := hb.2 h; cases this)
      refine ⟨r, Ev.step (fun k => ?_) hr, hP⟩
      simp only [antecedentref12_Comps.l3]
      rw [if_neg (by omega), if_neg (by simp), hw.out]
  | succ d ih =>
    intro n b hn hd hb
    have hnN : n < N := by omega
    have hw := Aside0.mk (show wrap64 ((n : Int) + 1) = ((n + 1 : Nat) : Int) by rw [wrap_id (by omega) (by omega)]; rfl)
    have hrj := hM.row j hj
    have hrn := hM.row n hnN
    have hjn := hM.at_ j hj n hnN
    have hnj := hM.at_ n hnN j hj
    have up : ∀ Q : Prop, (FrC N E of j n ∧ (R E j n → R E n j ∨ 0 ≤ rd of (n : Int)) ↔ Q) → (FrC N E of j (n + 1) ↔ Q) := by
      intro Q hQ
      rw [← hQ]
      unfold FrC
      constructor
      · rintro ⟨h1, h2⟩; exact ⟨⟨h1, fun k hk => h2 k (by omega)⟩, h2 n (by omega)⟩
      · rintro ⟨⟨h1, h2⟩, h3⟩
        refine ⟨h1, fun k hk => ?_⟩
        by_cases e : k = n
        · subst e; exact h3
        · exact h2 k (by omega)
    cases b with
    | false =>
      obtain ⟨r, hr, hP⟩ := ih (n + 1) false (by omega) (by omega) (by
        rw [up _ Iff.rfl]
        constructor
        · intro h; cases h
        · rintro ⟨h1, _⟩; exact hb.2 h1)
      refine ⟨r, Ev.step (fun k => ?_) hr, hP⟩
      simp only [antecedentref12_Comps.l3]
      rw [if_pos (by omega), if_neg (by simp), hw.out]
    | true =>
      have hfr := hb.1 rfl
      by_cases h1 : R E j n
      · by_cases h2 : R E n j
        · obtain ⟨r, hr, hP⟩ := ih (n + 1) true (by omega) (by omega) (by
            rw [up _ Iff.rfl]
            exact ⟨fun _ => ⟨hfr, fun _ => .inl h2⟩, fun _ => rfl⟩)
          refine ⟨r, Ev.step (fun k => ?_) hr, hP⟩
          simp only [antecedentref12_Comps.l3]
          rw [if_pos (by omega), if_pos trivial, if_pos (by omega), if_pos (by omega), if_pos (by omega), if_pos (by omega), if_pos ((rdOf_mk _ _).2 (hjn.2 h1)), if_pos (by omega), if_pos (by omega), if_pos ((rdOf_mk _ _).2 (hnj.2 h2)), hw.out]
        · obtain ⟨r, hr, hP⟩ := ih (n + 1) (decide (rd of (n : Int) ≥ 0)) (by omega) (by omega) (by
            rw [up _ Iff.rfl, decide_eq_true_iff]
            exact ⟨fun h => ⟨hfr, fun _ => .inr h⟩, fun h => (h.2 h1).resolve_left h2⟩)
          refine ⟨r, Ev.step (fun k => ?_) hr, hP⟩
          simp only [antecedentref12_Comps.l3]
          rw [if_pos (by omega), if_pos trivial, if_pos (by omega), if_pos (by omega), if_pos (by omega), if_pos (by omega), if_pos ((rdOf_mk _ _).2 (hjn.2 h1)), if_pos (by omega), if_pos (by omega), if_neg (fun h => h2 (hnj.1 ((rdOf_mk _ _).1 h))), if_pos (by omega), hw.out]
      · obtain ⟨r, hr, hP⟩ := ih (n + 1) true (by omega) (by omega) (by
          rw [up _ Iff.rfl]
          exact ⟨fun _ => ⟨hfr, fun h => absurd h h1⟩, fun _ => rfl⟩)
        refine ⟨r, Ev.step (fun k => ?_) hr, hP⟩
        simp only [antecedentref12_Comps.l3]
        rw [if_pos (by omega), if_pos trivial, if_pos (by omega), if_pos (by omega), if_pos (by omega), if_pos (by omega), if_neg (fun h => h1 (hjn.1 ((rdOf_mk _ _).1 h))), hw.out]

/-- One component's numbers are set. -/
theorem set_ev (hN : N ≤ 1000) (hM : Tb N E N M) (m : Nat) (b : Nat) (hb : b < N) (c0 : Nat) (of0 : List Int) (hG : ∀ k, k < N → (Mut E b k ↔ G k = m)) (h0 : St N G m c0 of0) (P : List Int → Prop)
    (next : ∀ c of, St N G (m + 1) c of → of.count (-1) < of0.count (-1) → ∃ r, Ev (fun k => antecedentref12_Comps.l1 k N M of ((m + 1 : Nat) : Int) c) r ∧ P r) (hm : m < 1000) (d : Nat) :
    ∀ n c of, n ≤ N → N - n = d → of.length = N → (∀ i, i < N → rd of (i : Int) = if i < n ∧ G i = m then (m : Int) else rd of0 i) → c + of.count (-1) = N → (n ≤ b → of.count (-1) ≤ of0.count (-1)) → (b < n → of.count (-1) < of0.count (-1)) →
      ∃ r, Ev (fun k => antecedentref12_Comps.l4 k N M of m c b n) r ∧ P r := by
  have hml := hM.len
  induction d with
  | zero =>
    intro n c of hn hd hl hv hc h1 h2
    obtain rfl : n = N := by omega
    have hw := Aside0.mk (show wrap64 ((m : Int) + 1) = ((m + 1 : Nat) : Int) by rw [wrap_id (by omega) (by omega)]; rfl)
    obtain ⟨r, hr, hP⟩ := next c of ⟨hl, fun i hi => by
      rw [hv i hi, h0.val i hi]
      by_cases e : G i = m
      · rw [if_pos ⟨hi, e⟩, if_pos (by omega), e]
      · rw [if_neg (fun h => e h.2)]
        by_cases e2 : G i < m
        · rw [if_pos e2, if_pos (by omega)]
        · rw [if_neg e2, if_neg (by omega)], hc⟩ (h2 hb)
    refine ⟨r, Ev.step (fun k => ?_) hr, hP⟩
    simp only [antecedentref12_Comps.l4]
    rw [if_neg (by omega), hw.out]
  | succ d ih =>
    intro n c of hn hd hl hv hc h1 h2
    have hnN : n < N := by omega
    have hw := Aside0.mk (show wrap64 ((n : Int) + 1) = ((n + 1 : Nat) : Int) by rw [wrap_id (by omega) (by omega)]; rfl)
    have hwc := Aside0.mk (show wrap64 ((c : Int) + 1) = ((c + 1 : Nat) : Int) by rw [wrap_id (by omega) (by omega)]; rfl)
    have hrb := hM.row b hb
    have hrn := hM.row n hnN
    have hbn := hM.at_ b hb n hnN
    have hnb := hM.at_ n hnN b hb
    by_cases e : G n = m
    · have hmu := (hG n hnN).2 e
      have hold : rd of (n : Int) = -1 := by
        rw [hv n hnN, if_neg (by omega), h0.val n hnN, if_neg (by omega)]
      have hcs := count_setI of n m (by omega) hold (by omega)
      obtain ⟨r, hr, hP⟩ := ih (n + 1) (c + 1) (of.set n m) (by omega) (by omega) (by rw [List.length_set]; exact hl) (by
        intro i hi
        rw [rd_set _ _ _ _ (by omega)]
        by_cases e2 : i = n
        · subst e2; rw [if_pos rfl, if_pos ⟨by omega, e⟩]
        · rw [if_neg e2, hv i hi]
          by_cases e3 : i < n ∧ G i = m
          · rw [if_pos e3, if_pos ⟨by omega, e3.2⟩]
          · rw [if_neg e3, if_neg (fun h => e3 ⟨by omega, h.2⟩)]) (by omega) (fun h => by have := h1 (by omega); omega) (fun h => by
        rcases Nat.lt_or_ge b n with h' | h'
        · have := h2 h'; omega
        · have := h1 h'; omega)
      refine ⟨r, Ev.step (fun k => ?_) hr, hP⟩
      simp only [antecedentref12_Comps.l4]
      rw [if_pos (by omega), if_pos (by omega), if_pos (by omega), if_pos (by omega), if_pos (by omega), if_pos ((rdOf_mk _ _).2 (hbn.2 hmu.1)), if_pos (by omega), if_pos (by omega), if_pos ((rdOf_mk _ _).2 (hnb.2 hmu.2)), if_pos (by omega), hw.out, hwc.out, Int.toNat_natCast]
    · have hne : n ≠ b := by
        intro h
        subst h
        exact e ((hG n hnN).1 (Mut.refl _ _))
      obtain ⟨r, hr, hP⟩ := ih (n + 1) c of (by omega) (by omega) hl (by
        intro i hi
        rw [hv i hi]
        by_cases e3 : i < n ∧ G i = m
        · rw [if_pos e3, if_pos ⟨by omega, e3.2⟩]
        · rw [if_neg e3, if_neg (fun h => e3 ⟨by
            have : i ≠ n := fun h' => by subst h'; exact e h.2
            omega, h.2⟩)]) hc (fun h => h1 (by omega)) (fun h => h2 (by omega))
      refine ⟨r, Ev.step (fun k => ?_) hr, hP⟩
      simp only [antecedentref12_Comps.l4]
      by_cases r1 : R E b n
      · rw [if_pos (by omega), if_pos (by omega), if_pos (by omega), if_pos (by omega), if_pos (by omega), if_pos ((rdOf_mk _ _).2 (hbn.2 r1)), if_pos (by omega), if_pos (by omega), if_neg (fun h => e ((hG n hnN).1 ⟨r1, hnb.1 ((rdOf_mk _ _).1 h)⟩)), hw.out]
      · rw [if_pos (by omega), if_pos (by omega), if_pos (by omega), if_pos (by omega), if_pos (by omega), if_neg (fun h => r1 (hbn.1 ((rdOf_mk _ _).1 h))), hw.out]

/-- Which node is taken. -/
theorem best_ev (hN : N ≤ 1000) (hM : Tb N E N M) (hG : Good N E G) (m c : Nat) (of : List Int) (h : St N G m c of) (b : Nat) (hb : b < N) (hf : Free N E G b m) (hl : ∀ j, j < b → ¬ Free N E G j m) (P : List Int → Prop)
    (next : ∃ r, Ev (fun k => antecedentref12_Comps.l4 k N M of m c b (0 : Nat)) r ∧ P r) (d : Nat) :
    ∀ j, j ≤ b → b - j = d → ∃ r, Ev (fun k => antecedentref12_Comps.l2 k N M of m c (-1) j) r ∧ P r := by
  have hol := h.len
  induction d with
  | zero =>
    intro j hj hd
    obtain rfl : j = b := by omega
    obtain ⟨r, hr, hP⟩ := flag_ev hN hM of h.len m c (-1) j hb P (fun _ => by
      obtain ⟨r, hr, hP⟩ := next
      have g : Ev (fun k => antecedentref12_Comps.j3 k N M of m c j (j + 1 : Nat) false) r := by
        refine Ev.step (fun k => ?_) hr
        simp only [antecedentref12_Comps.j3]
        rw [if_neg (by simp)]
        rfl
      refine ⟨r, Ev.step (fun k => ?_) g, hP⟩
      simp only [antecedentref12_Comps.l2]
      by_cases e : ((j + 1 : Nat) : Int) < N
      · rw [if_pos e, decide_eq_false (by omega)]
      · rw [if_neg e]) (fun hn => absurd ((FrC.free hG h j hb).2 hf) hn) N 0 (decide (rd of (j : Int) < 0)) (by omega) (by omega) (by
        rw [decide_eq_true_iff]
        unfold FrC
        exact ⟨fun h => ⟨h, fun k hk => by omega⟩, fun h => h.1⟩)
    refine ⟨r, Ev.step (f := fun k => antecedentref12_Comps.j3 k N M of m c (-1) j true) (fun k => ?_) (Ev.step (fun k => ?_) hr), hP⟩
    · simp only [antecedentref12_Comps.l2]
      rw [if_pos (by omega), decide_eq_true (by omega)]
    · simp only [antecedentref12_Comps.j3]
      rw [if_pos trivial, if_pos (by omega), if_pos (by omega)]
      rfl
  | succ d ih =>
    intro j hj hd
    obtain ⟨r, hr, hP⟩ := flag_ev hN hM of h.len m c (-1) j (by omega) P (fun hy => absurd ((FrC.free hG h j (by omega)).1 hy) (hl j (by omega))) (fun _ => ih (j + 1) (by omega) (by omega)) N 0 (decide (rd of (j : Int) < 0)) (by omega) (by omega) (by
        rw [decide_eq_true_iff]
        unfold FrC
        exact ⟨fun h => ⟨h, fun k hk => by omega⟩, fun h => h.1⟩)
    refine ⟨r, Ev.step (f := fun k => antecedentref12_Comps.j3 k N M of m c (-1) j true) (fun k => ?_) (Ev.step (fun k => ?_) hr), hP⟩
    · simp only [antecedentref12_Comps.l2]
      rw [if_pos (by omega), decide_eq_true (by omega)]
    · simp only [antecedentref12_Comps.j3]
      rw [if_pos trivial, if_pos (by omega), if_pos (by omega)]
      rfl

theorem stages_ev (hN : N ≤ 1000) (hM : Tb N E N M) (hG : Good N E G) (q : Nat) : ∀ m c of, St N G m c of → m ≤ c → of.count (-1) = q → ∃ r, Ev (fun k => antecedentref12_Comps.l1 k N M of m c) r ∧ (r.length = N ∧ ∀ i, i < N → rd r (i : Int) = G i) := by
  induction q using Nat.strongRecOn with
  | _ q ih =>
    intro m c of h hmc hq
    have hol := h.len
    have hcnt := h.cnt
    by_cases hz : 0 < of.count (-1)
    · obtain ⟨i, hi, hi1⟩ := count_pos of hz
      have hGi : (m : Int) ≤ G i := by
        have hv := h.val i (by omega)
        rw [hi1] at hv
        have := hG.nn i (by omega)
        split at hv <;> omega
      obtain ⟨j, hj, hjm⟩ : ∃ j, j < N ∧ G j = m := by
        by_cases e : G i = m
        · exact ⟨i, by omega, e⟩
        · exact hG.full i (by omega) m (by omega) (by omega)
      obtain ⟨b, hb, hbm, hbf, hbl⟩ := hG.first j hj
      rw [hjm] at hbm hbf hbl
      have hcl : ∀ k, k < N → (Mut E b k ↔ G k = m) := by
        intro k hk
        rw [← hG.cls b k hb hk, hbm]
        exact eq_comm
      obtain ⟨r, hr, hP⟩ := best_ev hN hM hG m c of h b hb hbf hbl (fun r => r.length = N ∧ ∀ i, i < N → rd r (i : Int) = G i) (set_ev hN hM m b hb c of hcl h _ (fun c' of' h' hlt => ih _ (by omega) (m + 1) c' of' h' (by have := h'.cnt; omega) rfl) (by omega) N 0 c of (by omega) (by omega) hol (fun i hi => by rw [if_neg (by omega)]) hcnt (fun _ => Nat.le_refl _) (fun h => by omega)) _ 0 (by omega) rfl
      refine ⟨r, Ev.step (fun k => ?_) hr, hP⟩
      simp only [antecedentref12_Comps.l1]
      rw [if_pos (by omega)]
      rfl
    · refine ⟨of, Ev.step (f := fun _ => some of) (fun k => ?_) (Ev.now of), hol, fun i hi => ?_⟩
      · simp only [antecedentref12_Comps.l1]
        rw [if_neg (by omega)]
      · have hv := h.val i hi
        by_cases e : G i < m
        · rw [if_pos e] at hv; exact hv
        · rw [if_neg e] at hv
          exfalso
          have hmem : (-1 : Int) ∈ of := by
            rw [← hv, rd_at _ _ (by omega)]
            exact List.getElem_mem _
          exact hz (List.count_pos_iff.2 hmem)
end

theorem rdL5_app (M : List (List Bool)) (t : List Bool) (i : Nat) : rd_L5 (M ++ [t]) (i : Int) = if i < M.length then rd_L5 M (i : Int) else if i = M.length then t else [] := by
  unfold rd_L5
  rw [Int.toNat_natCast, List.getD_eq_getElem?_getD, List.getD_eq_getElem?_getD]
  by_cases e : i < M.length
  · rw [if_pos e, List.getElem?_append_left e]
  · rw [if_neg e, List.getElem?_append_right (by omega)]
    by_cases e2 : i = M.length
    · subst e2; simp
    · rw [if_neg e2, List.getElem?_eq_none (by simp; omega)]; rfl

theorem table_ev (N : Nat) (hN : N ≤ 1000) (l : List S31) (hl : l.length ≤ 100000) (P : List Int → Prop)
    (next : ∀ M, Tb N (Core.Edge N l) N M → ∃ r, Ev (fun k => antecedentref12_Comps.l1 k N M (List.replicate N (-1)) (0 : Nat) (0 : Nat)) r ∧ P r) (d : Nat) :
    ∀ i M, i ≤ N → N - i = d → Tb N (Core.Edge N l) i M → ∃ r, Ev (fun k => antecedentref12_Comps.l0 k N l M (List.replicate i (-1)) i) r ∧ P r := by
  induction d with
  | zero =>
    intro i M hi hd h
    obtain rfl : i = N := by omega
    obtain ⟨r, hr, hP⟩ := next M h
    refine ⟨r, Ev.step (fun k => ?_) hr, hP⟩
    simp only [antecedentref12_Comps.l0]
    rw [if_neg (by omega)]
    rfl
  | succ d ih =>
    intro i M hi hd h
    have hml := h.len
    have hw := Aside0.mk (show wrap64 ((i : Int) + 1) = ((i + 1 : Nat) : Int) by rw [wrap_id (by omega) (by omega)]; rfl)
    obtain ⟨t, ht, htl, htm⟩ := Reached_ev N hN l hl N ⟨by omega, by omega⟩ i (by omega)
    obtain ⟨r, hr, hP⟩ := ih (i + 1) (M ++ [t]) (by omega) (by omega) ⟨by simp [hml], by
        intro a ha
        rw [rdL5_app]
        by_cases e : a < M.length
        · rw [if_pos e]; exact h.row a (by omega)
        · rw [if_neg e, if_pos (by omega)]; exact htl, by
        intro a ha j hj
        rw [rdL5_app]
        by_cases e : a < M.length
        · rw [if_pos e]; exact h.at_ a (by omega) j hj
        · rw [if_neg e, if_pos (by omega)]
          obtain rfl : a = i := by omega
          exact htm j hj⟩
    refine ⟨r, Ev.step (f := fun k => (antecedentref12_Reached.f k N l i).bind fun t => if M.length < 5864062014805 then (if (List.replicate i (-1 : Int)).length < 17592186044416 then antecedentref12_Comps.l0 k N l (M ++ [t]) (List.replicate (i + 1) (-1)) (i + 1 : Nat) else none) else none) (fun k => ?_) (Ev.bind (f := fun k t => if M.length < 5864062014805 then (if (List.replicate i (-1 : Int)).length < 17592186044416 then antecedentref12_Comps.l0 k N l (M ++ [t]) (List.replicate (i + 1) (-1)) (i + 1 : Nat) else none) else none) ht (Ev.congr (fun k => ?_) hr)), hP⟩
    · simp only [antecedentref12_Comps.l0]
      rw [if_pos (by omega), hw.out, List.replicate_succ']
    · rw [if_pos (by omega), if_pos (by rw [List.length_replicate]; omega)]

/-- The reference's numbering is the document's, whichever other numbering is given. -/
theorem RComps_ev (N : Nat) (hN : N ≤ 1000) (l : List S31) (hl : l.length ≤ 100000) (a0 : Int) (ha : a0.toNat = N ∧ a0 ≤ 1000) (of : List Int) (ho : Ok N (Core.Edge N l) of) : ∃ r, Ev (fun k => antecedentref12_Comps.f k a0 l) r ∧ r.length = N ∧ ∀ i, i < N → rd r (i : Int) = rd of (i : Int) := by
  obtain ⟨r, hr, hP⟩ := table_ev N hN l hl (fun r => r.length = N ∧ ∀ i, i < N → rd r (i : Int) = rd of (i : Int)) (fun M hM => stages_ev hN hM ho.2 _ 0 0 _ ⟨by simp, fun i hi => by
      have := ho.2.nn i hi
      rw [rd_rep _ _ _ hi, if_neg (by omega)], by simp⟩ (Nat.le_refl _) rfl) N 0 [] (by omega) rfl ⟨rfl, fun i hi => by omega, fun i hi => by omega⟩
  refine ⟨r, ?_, hP⟩
  unfold antecedentref12_Comps.f
  refine Ev.congr (fun k => ?_) hr
  rw [rheld_ev a0 ha.2, ha.1]
  rfl
end Go.Proofs.Ytigpeemgnocdhaa.Core
