/- Running by hand: a loop by its last round; the elements of a row that has been built up. -/
import Derived.Test.YtiphnjohbbpkpaaAvX
namespace Go.Proofs.YtiphnjohbbpkpaaA
open Go Go.RowKit
set_option linter.all false
set_option linter.unusedSectionVars false
set_option linter.constructorNameAsVariable false
set_option linter.unusedVariables false
set_option linter.unusedSimpArgs false
section
variable {P : Program} {call callD : Fun} {jump : Code → Code → St → Option (AX × St)} {pure_ : FuncId → Bool} {dyn : Nat → Bool} {keep : Nat → Option (List Nat)} {n k K : Nat} {H : List Blk}
theorem loop_last {b : Code} (I R : Nat → St → Prop) (m : Nat) : ∀ (d i k : Nat) (s0 : St), i + d = m → d < k → I i (prn keep b s0) →
    (∀ j, j ≤ m → ∀ s, I j s → (j < m ∧ ∃ s1, acode P call callD jump pure_ dyn keep n K b s = some (.normal, s1) ∧ I (j + 1) (prn keep b s1)) ∨ (R j s ∧ ends (acode P call callD jump pure_ dyn keep n K b s) = true)) →
    ∃ j s, j ≤ m ∧ I j s ∧ R j s ∧ loopN (fun s => acode P call callD jump pure_ dyn keep n K b (prn keep b s)) k s0 = acode P call callD jump pure_ dyn keep n K b s := by
  intro d
  induction d with
  | zero =>
    intro i k s0 hi hk h0 hs
    obtain ⟨k, rfl⟩ : ∃ j, k = j + 1 := ⟨k - 1, by omega⟩
    rcases hs i (by omega) _ h0 with ⟨h1, _⟩ | ⟨h1, h2⟩
    · omega
    · refine ⟨i, _, by omega, h0, h1, ?_⟩
      simp only [loopN]
      cases h : acode P call callD jump pure_ dyn keep n K b (prn keep b s0) with
      | none => rfl
      | some p =>
        obtain ⟨x, s'⟩ := p
        rw [h] at h2
        cases x <;> first | rfl | (cases h2; done)
  | succ d ih =>
    intro i k s0 hi hk h0 hs
    obtain ⟨k, rfl⟩ : ∃ j, k = j + 1 := ⟨k - 1, by omega⟩
    rcases hs i (by omega) _ h0 with ⟨h1, s1, e1, h2⟩ | ⟨h1, h2⟩
    · obtain ⟨j, s, q1, q2, q3, q4⟩ := ih (i + 1) k s1 (by omega) (by omega) h2 hs
      refine ⟨j, s, q1, q2, q3, ?_⟩
      simp only [loopN]
      rw [e1]
      exact q4
    · refine ⟨i, _, by omega, h0, h1, ?_⟩
      simp only [loopN]
      cases h : acode P call callD jump pure_ dyn keep n K b (prn keep b s0) with
      | none => rfl
      | some p =>
        obtain ⟨x, s'⟩ := p
        rw [h] at h2
        cases x <;> first | rfl | (cases h2; done)
/-- A loop comes to what its last round comes to. -/
theorem aloop_last {b : Code} {s0 : St} {A : Option (AX × St)} (hA : aloop P call callD jump pure_ dyn keep n k b s0 = A) (L : List Nat) (I R : Nat → St → Prop) (m : Nat) (hk : m < k) (hL : (firstId b).bind keep = some L) (h0 : I 0 (pr L s0))
    (hs : ∀ j, j ≤ m → ∀ s, I j s → (j < m ∧ ∃ s1, aft L (acode P call callD jump pure_ dyn keep n k b s) = some (.normal, s1) ∧ I (j + 1) s1) ∨ (R j s ∧ ends (acode P call callD jump pure_ dyn keep n k b s) = true)) :
    ∃ j s, j ≤ m ∧ I j s ∧ R j s ∧ A = acode P call callD jump pure_ dyn keep n k b s := by
  have hp : prn keep b = pr L := by
    funext s
    unfold prn pr
    rw [hL]
    rfl
  subst hA
  exact loop_last I R m m 0 k s0 (by omega) hk (by rw [hp]; exact h0) (fun j hj s hI => by
    rcases hs j hj s hI with ⟨h1, s1, e1, h2⟩ | h
    · obtain ⟨⟨x2, s2⟩, e2, e3⟩ := Option.map_eq_some_iff.1 e1
      simp only [Prod.mk.injEq] at e3
      obtain ⟨e4, e5⟩ := e3
      subst e4
      exact .inl ⟨h1, s2, e2, by rw [hp, e5]; exact h2⟩
    · exact .inr h)
theorem flat_at {sz : Nat} : ∀ {rows : List (List AV)} {j : Nat} {r : List AV}, (∀ r ∈ rows, r.length = sz) → rows[j]? = some r → (rows.flatten.drop (j * sz)).take sz = r
  | [], _, _, _, h => by simp at h
  | a :: rows, 0, r, hr, h => by
    simp only [List.getElem?_cons_zero, Option.some.injEq] at h
    subst h
    have := hr a (by simp)
    simp [List.take_append_of_le_length, this]
  | a :: rows, j + 1, r, hr, h => by
    simp only [List.getElem?_cons_succ] at h
    have ha := hr a (by simp)
    have := flat_at (fun x hx => hr x (by simp [hx])) h
    rw [List.flatten_cons, List.drop_append, ha, List.drop_eq_nil_of_le (by rw [ha, Nat.add_mul]; omega), List.nil_append, show (j + 1) * sz - sz = j * sz by rw [Nat.add_mul]; omega]
    exact this
/-- An element of a row that has been built up: its address, and what stands there. -/
theorem out_at {t e : TypeId} {sz : Nat} {v : AV} {rows : List (List AV)} {j : Nat} {r : List AV} (hu : P.underlying t = some (.slice e)) (hs : szOf P e = some sz) (h : OutAt e sz H v rows) (hr : ∀ r ∈ rows, r.length = sz) (hj : rows[j]? = some r) :
    ∃ b off ver cs, (∀ k, aIndexAddr P H t v (.sc (.int k (j : Nat))) = some (.val (.ptr b off ver))) ∧ H[b]? = some ⟨e, sz, ver, true, cs, .cells⟩ ∧ off + sz ≤ cs.length ∧ (cs.drop off).take sz = r := by
  have hlt : j < rows.length := by rcases Nat.lt_or_ge j rows.length with h | h; exact h; rw [List.getElem?_eq_none h] at hj; cases hj
  rcases h with ⟨rfl, _⟩ | ⟨hne, b, ver, rfl, hk⟩
  · simp at hj
  · refine ⟨b, (0 + j) * sz, ver, _, fun k => aIndexAddr_own hu hs (blkAt_some' hk rfl rfl) hlt, hk, ?_, ?_⟩
    · rw [flat_len' hr, Nat.zero_add]
      have : (j + 1) * sz ≤ rows.length * sz := Nat.mul_le_mul_right _ hlt
      rw [Nat.add_mul] at this
      omega
    · rw [Nat.zero_add]
      exact flat_at hr hj
theorem out_len {t e : TypeId} {sz : Nat} {v : AV} {rows : List (List AV)} (hu : P.underlying t = some (.slice e)) (h : OutAt e sz H v rows) : aLen P H t v = some (.val (.sc (.int .i64 rows.length))) := by
  rcases h with ⟨rfl, rfl⟩ | ⟨hne, b, ver, rfl, hk⟩
  · exact (LV.nil hu).len H
  · exact aLen_slice hu rfl
end
end Go.Proofs.YtiphnjohbbpkpaaA
