
/- comps.Lists as a plain function: for each number the list of the places that have it. -/
import Derived.Test.YtfkilcegdajdcaaPZx3
import Derived.Test.YtfkilcegdajdcaaCoreA
namespace Go.Proofs.Ytfkilcegdajdcaa.Core
open Go.RowKit Go.Proofs.Ytfkilcegdajdcaa.PZ Go.Proofs.YtfkilcegdajdcaaW.PrintWords Go.Proofs.YtfkilcegdajdcaaW.PrintLast Go.Proofs.YtfkilcegdajdcaaW.PrintMore
def good (v : Int) : Prop := 0 ≤ v ∧ v ≤ 1000
instance (v : Int) : Decidable (good v) := inferInstanceAs (Decidable (_ ∧ _))
def gr (l : List Int) : Nat → Nat
  | 0 => 0
  | n + 1 => if good (rd l n) then max (gr l n) ((rd l n).toNat + 1) else gr l n
def ix (l : List Int) (k : Nat) : Nat → List Int
  | 0 => []
  | n + 1 => if good (rd l n) ∧ rd l n = k then ix l k n ++ [(n : Int)] else ix l k n
def cnt (l : List Int) : Nat → Nat
  | 0 => 0
  | n + 1 => if good (rd l n) then cnt l n + 1 else cnt l n
def rows (l : List Int) (g n : Nat) : List (List Int) := (List.range g).map fun k => ix l k n
theorem ix_far (l : List Int) (k : Nat) : ∀ n, gr l n ≤ k → ix l k n = []
  | 0, _ => rfl
  | n + 1, h => by
    simp only [gr] at h
    simp only [ix]
    by_cases hg : good (rd l n)
    · rw [if_pos hg] at h
      rw [if_neg (by intro hh; have := hg.1; omega)]
      exact ix_far l k n (by omega)
    · rw [if_neg hg] at h
      rw [if_neg (by intro hh; exact hg hh.1)]
      exact ix_far l k n h
theorem gr_le (l : List Int) : ∀ n, gr l n ≤ 1001
  | 0 => by simp [gr]
  | n + 1 => by
    simp only [gr]
    have := gr_le l n
    by_cases hg : good (rd l n)
    · rw [if_pos hg]; have := hg.1; have := hg.2; omega
    · rw [if_neg hg]; exact this
theorem ix_len (l : List Int) (k : Nat) : ∀ n, (ix l k n).length ≤ n
  | 0 => by simp [ix]
  | n + 1 => by
    simp only [ix]
    have := ix_len l k n
    split
    · simp; omega
    · omega
theorem ix_all (l : List Int) (k : Nat) : ∀ n, (∀ x ∈ ix l k n, 0 ≤ x ∧ x < n ∧ rd l x = k) ∧ (ix l k n).Pairwise (· < ·)
  | 0 => by simp [ix]
  | n + 1 => by
    obtain ⟨h1, h2⟩ := ix_all l k n
    simp only [ix]
    split
    · rename_i h
      refine ⟨?_, ?_⟩
      · intro x hx
        rcases List.mem_append.1 hx with hx | hx
        · obtain ⟨a, b, c⟩ := h1 x hx
          exact ⟨a, by omega, c⟩
        · rw [List.mem_singleton] at hx
          subst hx
          exact ⟨by omega, by omega, h.2⟩
      · rw [List.pairwise_append]
        refine ⟨h2, by simp, ?_⟩
        intro a ha b hb
        rw [List.mem_singleton] at hb
        subst hb
        exact (h1 a ha).2.1
    · exact ⟨fun x hx => by obtain ⟨a, b, c⟩ := h1 x hx; exact ⟨a, by omega, c⟩, h2⟩
theorem rows_len (l : List Int) (g n : Nat) : (rows l g n).length = g := by simp [rows]
theorem rows_at (l : List Int) (g n : Nat) (k : Int) (h0 : 0 ≤ k) (h : k < g) : rd_L7 (rows l g n) k = ix l k.toNat n := by
  unfold rd_L7 rows
  rw [List.getD_eq_getElem?_getD, List.getElem?_map, List.getElem?_range (by omega)]
  rfl
theorem rows_pad (l : List Int) (g n : Nat) (h : gr l n ≤ g) : rows l g n ++ [[]] = rows l (g + 1) n := by
  unfold rows
  rw [List.range_succ, List.map_append]
  simp [ix_far l g n h]
theorem rows_set (l : List Int) (g n : Nat) (hg : good (rd l n)) (h : rd l n < g) :
    (rows l g n).set (rd l n).toNat (rd_L7 (rows l g n) (rd l n) ++ [(n : Int)]) = rows l g (n + 1) := by
  have h0 := hg.1
  rw [rows_at l g n _ h0 h]
  apply List.ext_getElem
  · simp [rows]
  · intro i h1 h2
    rw [List.getElem_set]
    simp only [rows, List.getElem_map, List.getElem_range, ix]
    by_cases e : (rd l n).toNat = i
    · rw [if_pos e, if_pos ⟨hg, by omega⟩, e]
    · rw [if_neg e, if_neg (by intro hh; omega)]
theorem rows_skip (l : List Int) (g n : Nat) (hg : ¬ good (rd l n)) : rows l g (n + 1) = rows l g n := by
  unfold rows
  congr 1
  funext k
  simp only [ix]
  rw [if_neg (by intro hh; exact hg hh.1)]
theorem pad_ev (l : List Int) (n : Nat) (hn : n < l.length) (hl : l.length ≤ 1000) (hg : good (rd l n)) (r : List (List Int)) (d : Nat) : ∀ g, gr l n ≤ g → g ≤ 1001 → (rd l n).toNat + 1 - g = d →
    Ev (fun k => comps_Lists.l0 k (rows l (max g ((rd l n).toNat + 1)) (n + 1)) l l.length (n + 1 : Nat)) r →
    Ev (fun k => comps_Lists.l1 k (rows l g n) n (rd l n) l l.length n) r := by
  have h0 := hg.1
  have h1 := hg.2
  induction d with
  | zero =>
    intro g h hb hd hr
    refine Ev.step (fun k => ?_) hr
    simp only [comps_Lists.l1]
    rw [rows_len, if_neg (by omega), if_pos h0, if_pos (by omega), rows_at l g n _ h0 (by omega), if_pos (by have := ix_len l (rd l n).toNat n; omega)]
    rw [← rows_at l g n _ h0 (by omega), rows_set l g n hg (by omega), wrap_id (by omega) (by omega), Nat.max_eq_left (by omega)]
    rfl
  | succ d ih =>
    intro g h hb hd hr
    refine Ev.step (f := fun k => comps_Lists.l1 k (rows l (g + 1) n) n (rd l n) l l.length n) (fun k => ?_) (ih (g + 1) (by omega) (by omega) (by omega) ?_)
    · simp only [comps_Lists.l1]
      rw [rows_len, if_pos (by omega), if_pos (by omega), rows_pad l g n h]
    · rw [show max (g + 1) ((rd l n).toNat + 1) = max g ((rd l n).toNat + 1) by omega]
      exact hr
theorem tell_ev (l : List Int) (hl : l.length ≤ 1000) (d : Nat) : ∀ n, n ≤ l.length → l.length - n = d →
    Ev (fun k => comps_Lists.l0 k (rows l (gr l n) n) l l.length n) (rows l (gr l l.length) l.length) := by
  induction d with
  | zero =>
    intro n hn hd
    obtain rfl : n = l.length := by omega
    refine Ev.step (f := fun _ => some (rows l (gr l l.length) l.length)) (fun k => ?_) (Ev.now _)
    simp only [comps_Lists.l0]
    rw [if_neg (by omega)]
  | succ d ih =>
    intro n hn hd
    have hnx := ih (n + 1) (by omega) (by omega)
    by_cases hneg : rd l n < 0
    · have hg : ¬ good (rd l n) := by intro h; have := h.1; omega
      refine Ev.step (f := fun k => comps_Lists.j1 k (rows l (gr l n) n) n (rd l n) l l.length n true) (fun k => ?_) (Ev.step (fun k => ?_) hnx)
      · simp only [comps_Lists.l0]
        rw [if_pos (by omega), if_pos (by omega), if_pos (by omega), if_pos hneg]
      · simp only [comps_Lists.j1]
        rw [if_pos trivial, wrap_id (by omega) (by omega), rows_skip l _ n hg]
        simp only [gr]
        rw [if_neg hg]
        rfl
    · by_cases hbig : rd l n > 1000
      · have hg : ¬ good (rd l n) := by intro h; have := h.2; omega
        refine Ev.step (f := fun k => comps_Lists.j1 k (rows l (gr l n) n) n (rd l n) l l.length n true) (fun k => ?_) (Ev.step (fun k => ?_) hnx)
        · simp only [comps_Lists.l0]
          rw [if_pos (by omega), if_pos (by omega), if_pos (by omega), if_neg hneg, decide_eq_true hbig]
        · simp only [comps_Lists.j1]
          rw [if_pos trivial, wrap_id (by omega) (by omega), rows_skip l _ n hg]
          simp only [gr]
          rw [if_neg hg]
          rfl
      · have hg : good (rd l n) := ⟨by omega, by omega⟩
        refine Ev.step (f := fun k => comps_Lists.j1 k (rows l (gr l n) n) n (rd l n) l l.length n false) (fun k => ?_) (Ev.step (f := fun k => comps_Lists.l1 k (rows l (gr l n) n) n (rd l n) l l.length n) (fun k => ?_) (pad_ev l n (by omega) hl hg _ _ (gr l n) (Nat.le_refl _) (gr_le l n) rfl ?_))
        · simp only [comps_Lists.l0]
          rw [if_pos (by omega), if_pos (by omega), if_pos (by omega), if_neg hneg, decide_eq_false hbig]
        · simp only [comps_Lists.j1]
          rw [if_neg (by simp)]
        · simp only [gr] at hnx
          rw [if_pos hg] at hnx
          exact hnx
theorem Tell_ev (l : List Int) (hl : l.length ≤ 1000) : Ev (fun k => comps_Lists.f k l) (rows l (gr l l.length) l.length) := tell_ev l hl l.length 0 (by omega) (by omega)
def many (l : List Int) (n : Nat) : Nat → Nat
  | 0 => 0
  | g + 1 => many l n g + (ix l g n).length
end Go.Proofs.Ytfkilcegdajdcaa.Core
