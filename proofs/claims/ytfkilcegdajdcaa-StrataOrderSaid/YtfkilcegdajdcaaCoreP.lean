
/- The law's own small functions: which programs are few, and in which list a name stands. -/
import Derived.Test.YtfkilcegdajdcaaPZx8
import Derived.Test.YtfkilcegdajdcaaCoreU
namespace Go.Proofs.Ytfkilcegdajdcaa.Core
open Go.RowKit Go.Proofs.Ytfkilcegdajdcaa.PZ Go.Proofs.YtfkilcegdajdcaaW.PrintWords Go.Proofs.YtfkilcegdajdcaaW.PrintLast Go.Proofs.YtfkilcegdajdcaaW.PrintMore
set_option linter.unusedVariables false
theorem few_in (rs : List S39) (a : ByteArray) (l2 : List S43) (n : Nat) (r : S39) (Q : Nat → Prop)
    (cont : ∀ y : Nat, y ≤ 60 → ∃ b, Ev (fun k => antecedentref09_Few.l0 k 8 y rs.length (wrap64 ((n : Int) + 1)) rs a l2) b ∧ (b = true → Q y)) (hb : r.f2.length ≤ 8) (d : Nat) :
    ∀ (m y : Nat), m ≤ r.f2.length → r.f2.length - m = d → y ≤ 60 →
      ∃ b, Ev (fun k => antecedentref09_Few.l1 k 8 y rs.length n r.f2.length m rs a l2 r.f0.f0 r.f0.f1 r.f1 r.f2) b ∧ (b = true → Q (y + totB (r.f2.drop m))) := by
  induction d with
  | zero =>
    intro m y hm hd hy
    obtain ⟨b, h, hq⟩ := cont y hy
    refine ⟨b, Ev.step (fun k => ?_) h, fun e => ?_⟩
    · simp only [antecedentref09_Few.l1]
      rw [if_neg (by omega)]
    · rw [List.drop_eq_nil_of_le (by omega)]
      exact hq e
  | succ d ih =>
    intro m y hm hd hy
    have hl : m < r.f2.length := by omega
    have hr := rd46_at r.f2 m hl
    have hw := up1 m (by omega)
    have no : ∀ (h : r.f2[m].f6.length > 30 ∨ r.f2[m].f1.f1.length > 10 ∨ y + r.f2[m].f6.length > 60), ∃ b, Ev (fun k => antecedentref09_Few.l1 k 8 y rs.length n r.f2.length m rs a l2 r.f0.f0 r.f0.f1 r.f1 r.f2) b ∧ (b = true → Q (y + totB (r.f2.drop m))) := by
      intro h
      refine ⟨false, Ev.step (f := fun _ => some false) (fun k => ?_) (Ev.now _), fun e => by cases e⟩
      simp only [antecedentref09_Few.l1]
      rw [if_pos (by omega), if_pos (by omega), if_pos (by omega), hr]
      by_cases h1 : (r.f2[m].f6.length : Int) > 30
      · rw [if_pos h1]
      · rw [if_neg h1]
        by_cases h2 : (r.f2[m].f1.f1.length : Int) > 10
        · rw [if_pos h2]
        · rw [if_neg h2, if_pos (by rw [wrap_id (by omega) (by omega)]; omega)]
    by_cases h1 : r.f2[m].f6.length > 30
    · exact no (.inl h1)
    by_cases h2 : r.f2[m].f1.f1.length > 10
    · exact no (.inr (.inl h2))
    by_cases h3 : y + r.f2[m].f6.length > 60
    · exact no (.inr (.inr h3))
    obtain ⟨b, h, hq⟩ := ih (m + 1) (y + r.f2[m].f6.length) (by omega) (by omega) (by omega)
    refine ⟨b, Ev.step (fun k => ?_) h, fun e => ?_⟩
    · simp only [antecedentref09_Few.l1]
      rw [if_pos (by omega), if_pos (by omega), if_pos (by omega), hr, if_neg (by omega), if_neg (by omega), wrap_id (x := (y : Int) + _) (by omega) (by omega), if_neg (by omega), hw, Int.natCast_add y]
    · have := hq e
      rw [List.drop_eq_getElem_cons hl]
      simp only [totB, List.map_cons, List.sum_cons] at this ⊢
      rwa [Nat.add_assoc] at this
theorem few_out (rs : List S39) (hR : rs.length ≤ 10) (a : ByteArray) (l2 : List S43) (d : Nat) : ∀ (n y : Nat), n ≤ rs.length → rs.length - n = d → y ≤ 60 →
    ∃ b, Ev (fun k => antecedentref09_Few.l0 k 8 y rs.length n rs a l2) b ∧ (b = true → (∀ r ∈ rs.drop n, r.f2.length ≤ 8) ∧ y + totR (rs.drop n) ≤ 60) := by
  induction d with
  | zero =>
    intro n y hn hd hy
    refine ⟨true, Ev.step (f := fun _ => some true) (fun k => ?_) (Ev.now _), fun _ => ?_⟩
    · simp only [antecedentref09_Few.l0]
      rw [if_neg (by omega)]
    · rw [List.drop_eq_nil_of_le (by omega)]
      exact ⟨by simp, by simpa [totR] using hy⟩
  | succ d ih =>
    intro n y hn hd hy
    have hl : n < rs.length := by omega
    have hr := rd39_at rs n hl
    have hw := up1 n (by omega)
    have no : ∀ q, q = true → ∃ b, Ev (fun k => antecedentref09_Few.j2 k 8 y rs.length n q rs a l2 rs[n].f0.f0 rs[n].f0.f1 rs[n].f1 rs[n].f2) b ∧ (b = true → (∀ r ∈ rs.drop n, r.f2.length ≤ 8) ∧ y + totR (rs.drop n) ≤ 60) := by
      intro q hq
      refine ⟨false, Ev.step (f := fun _ => some false) (fun k => ?_) (Ev.now _), fun e => by cases e⟩
      simp only [antecedentref09_Few.j2]
      rw [if_pos hq]
    have step : ∀ q, (Ev (fun k => antecedentref09_Few.j2 k 8 y rs.length n true rs a l2 rs[n].f0.f0 rs[n].f0.f1 rs[n].f1 rs[n].f2) q → rs[n].f2.length > 8 → Ev (fun k => antecedentref09_Few.l0 k 8 y rs.length n rs a l2) q) := by
      intro q h h8
      refine Ev.step (fun k => ?_) h
      simp only [antecedentref09_Few.l0]
      rw [if_pos (by omega), if_pos (by omega), if_pos (by omega), hr, if_pos (by omega)]
    by_cases h8 : rs[n].f2.length > 8
    · obtain ⟨b, h, hq⟩ := no true rfl
      exact ⟨b, step b h h8, hq⟩
    · have step2 : ∀ q, Ev (fun k => antecedentref09_Few.j2 k 8 y rs.length n (decide ((rs[n].f0.f1.length : Int) > 10)) rs a l2 rs[n].f0.f0 rs[n].f0.f1 rs[n].f1 rs[n].f2) q → Ev (fun k => antecedentref09_Few.l0 k 8 y rs.length n rs a l2) q := by
        intro q h
        refine Ev.step (fun k => ?_) h
        simp only [antecedentref09_Few.l0]
        rw [if_pos (by omega), if_pos (by omega), if_pos (by omega), hr, if_neg (by omega)]
      by_cases h10 : (rs[n].f0.f1.length : Int) > 10
      · obtain ⟨b, h, hq⟩ := no _ (decide_eq_true h10)
        exact ⟨b, step2 b h, hq⟩
      · obtain ⟨b, h, hq⟩ := few_in rs a l2 n rs[n] (fun z => (∀ r ∈ rs.drop (n + 1), r.f2.length ≤ 8) ∧ z + totR (rs.drop (n + 1)) ≤ 60) (fun z hz => by rw [hw]; exact ih (n + 1) z (by omega) (by omega) hz) (by omega) _ 0 y (by omega) rfl hy
        refine ⟨b, step2 b (Ev.step (fun k => ?_) h), fun e => ?_⟩
        · simp only [antecedentref09_Few.j2]
          rw [if_neg (by simpa using h10)]
          rfl
        · obtain ⟨q1, q2⟩ := hq e
          rw [List.drop_eq_getElem_cons hl]
          refine ⟨fun r hr => ?_, ?_⟩
          · rcases List.mem_cons.1 hr with rfl | hr
            · omega
            · exact q1 r hr
          · simp only [totR, List.map_cons, List.sum_cons, List.drop_zero] at q2 ⊢
            omega
theorem few_ev (rs : List S39) (a : ByteArray) (l2 : List S43) : ∃ b, Ev (fun k => antecedentlaw13_few.f k rs a l2) b ∧ (b = true → Small rs) := by
  have key : ∃ b, Ev (fun k => antecedentref09_Few.f k rs a l2 10 8) b ∧ (b = true → Small rs) := by
    unfold antecedentref09_Few.f
    by_cases h : (rs.length : Int) > 10
    · simp only [if_pos h]
      refine ⟨false, Ev.step (f := fun _ => some false) (fun k => ?_) (Ev.now _), fun e => by cases e⟩
      simp only [antecedentref09_Few.j0]
      rw [if_pos trivial]
    · simp only [if_neg h]
      by_cases h2 : (l2.length : Int) > 10
      · refine ⟨false, Ev.step (f := fun _ => some false) (fun k => ?_) (Ev.now _), fun e => by cases e⟩
        simp only [antecedentref09_Few.j0]
        rw [if_pos (decide_eq_true h2)]
      · obtain ⟨b, hb, hq⟩ := few_out rs (by omega) a l2 _ 0 0 (by omega) rfl (by omega)
        refine ⟨b, Ev.step (fun k => ?_) hb, fun e => ?_⟩
        · simp only [antecedentref09_Few.j0]
          rw [if_neg (by simpa using h2)]
          rfl
        · obtain ⟨q1, q2⟩ := hq e
          exact ⟨by omega, by simpa using q1, by simpa using q2⟩
  obtain ⟨b, h, hq⟩ := key
  exact ⟨b, Ev.bind (f := fun k t => some t) h (Ev.now _), hq⟩
theorem rdL1_at (l : List (List ByteArray)) (n : Nat) (h : n < l.length) : rd_L1 l n = l[n] := by unfold rd_L1; rw [Int.toNat_natCast, getD_at _ _ _ h]
theorem toList_eq {a b : ByteArray} : a.toList = b.toList ↔ a = b := ⟨fun h => by
  apply Ord.bytes_ext
  rwa [ByteArray.toList_eq, ByteArray.toList_eq] at h, fun h => h ▸ rfl⟩
end Go.Proofs.Ytfkilcegdajdcaa.Core
