/- CompsLists' pure statement: each place stands in the list of its number, once, rising, and there is a list for each number up to the greatest one; no condition beyond the statement's own. -/
import Derived.Test.YtigpeemgnocdhaaPZx8
namespace Go.Proofs.Ytigpeemgnocdhaa.Pure
open Go.RowKit Go.Proofs.Ytigpeemgnocdhaa.PZ Go.Proofs.YtigpeemgnocdhaaW.PrintWords Go.Proofs.YtigpeemgnocdhaaW.PrintLast Go.Proofs.YtigpeemgnocdhaaW.PrintMore

theorem awake_ev : Ev (fun k => antecedentlaw12_awake.f k) true := Ev.of (fun k => antecedentlaw12_awake.mono k) (k := 60) (by decide +kernel)
theorem wrap_id {x : Int} (h1 : -9223372036854775808 ≤ x) (h2 : x ≤ 9223372036854775807) : wrap64 x = x := by unfold wrap64; omega

def good (v : Int) : Prop := 0 ≤ v ∧ v ≤ 1000
instance (v : Int) : Decidable (good v) := inferInstanceAs (Decidable (_ ∧ _))
def gr (l : List Int) : Nat → Nat
  | 0 => 0
  | n + 1 => if good (rd l n) then max (gr l n) ((rd l n).toNat + 1) else gr l n
def ix (l : List Int) (k : Nat) : Nat → List Int
  | 0 => []
  | n + 1 => if good (rd l n) ∧ rd l n = k then ix l k n ++ [(n : Int)] else ix l k n
def cnt (l : List Int) : Nat → Nat
  | 0 => 0
  | n + 1 => if good (rd l n) then cnt l n + 1 else cnt l n
def rows (l : List Int) (g n : Nat) : List (List Int) := (List.range g).map fun k => ix l k n

theorem ix_far (l : List Int) (k : Nat) : ∀ n, gr l n ≤ k → ix l k n = []
  | 0, _ => rfl
  | n + 1, h => by
    simp only [gr] at h
    simp only [ix]
    by_cases hg : good (rd l n)
    · rw [if_pos hg] at h
      rw [if_neg (by intro hh; have := hg.1; omega)]
      exact ix_far l k n (by omega)
    · rw [if_neg hg] at h
      rw [if_neg (by intro hh; exact hg hh.1)]
      exact ix_far l k n h
theorem gr_le (l : List Int) : ∀ n, gr l n ≤ 1001
  | 0 => by simp [gr]
  | n + 1 => by
    simp only [gr]
    have := gr_le l n
    by_cases hg : good (rd l n)
    · rw [if_pos hg]; have := hg.1; have := hg.2; omega
    · rw [if_neg hg]; exact this
theorem ix_len (l : List Int) (k : Nat) : ∀ n, (ix l k n).length ≤ n
  | 0 => by simp [ix]
  | n + 1 => by
    simp only [ix]
    have := ix_len l k n
    split
    · simp; omega
    · omega
theorem cnt_le (l : List Int) : ∀ n, cnt l n ≤ n
  | 0 => by simp [cnt]
  | n + 1 => by
    simp only [cnt]
    have := cnt_le l n
    split <;> omega
/-- What stands in the list of k. -/
theorem ix_all (l : List Int) (k : Nat) : ∀ n, (∀ x ∈ ix l k n, 0 ≤ x ∧ x < n ∧ rd l x = k) ∧ (ix l k n).Pairwise (· < ·)
  | 0 => by simp [ix]
  | n + 1 => by
    obtain ⟨h1, h2⟩ := ix_all l k n
    simp only [ix]
    split
    · rename_i h
      refine ⟨?_, ?_⟩
      · intro x hx
        rcases List.mem_append.1 hx with hx | hx
        · obtain ⟨a, b, c⟩ := h1 x hx
          exact ⟨a, by omega, c⟩
        · rw [List.mem_singleton] at hx
          subst hx
          exact ⟨by omega, by omega, h.2⟩
      · rw [List.pairwise_append]
        refine ⟨h2, by simp, ?_⟩
        intro a ha b hb
        rw [List.mem_singleton] at hb
        subst hb
        exact (h1 a ha).2.1
    · exact ⟨fun x hx => by obtain ⟨a, b, c⟩ := h1 x hx; exact ⟨a, by omega, c⟩, h2⟩
theorem rows_len (l : List Int) (g n : Nat) : (rows l g n).length = g := by simp [rows]
theorem rows_at (l : List Int) (g n : Nat) (k : Int) (h0 : 0 ≤ k) (h : k < g) : rd_L2 (rows l g n) k = ix l k.toNat n := by
  unfold rd_L2 rows
  rw [List.getD_eq_getElem?_getD, List.getElem?_map, List.getElem?_range (by omega)]
  rfl
theorem rows_pad (l : List Int) (g n : Nat) (h : gr l n ≤ g) : rows l g n ++ [[]] = rows l (g + 1) n := by
  unfold rows
  rw [List.range_succ, List.map_append]
  simp [ix_far l g n h]
theorem rows_set (l : List Int) (g n : Nat) (hg : good (rd l n)) (h : rd l n < g) :
    (rows l g n).set (rd l n).toNat (rd_L2 (rows l g n) (rd l n) ++ [(n : Int)]) = rows l g (n + 1) := by
  have h0 := hg.1
  rw [rows_at l g n _ h0 h]
  apply List.ext_getElem
  · simp [rows]
  · intro i h1 h2
    rw [List.getElem_set]
    simp only [rows, List.getElem_map, List.getElem_range, ix]
    by_cases e : (rd l n).toNat = i
    · rw [if_pos e, if_pos ⟨hg, by omega⟩, e]
    · rw [if_neg e, if_neg (by intro hh; omega)]
theorem rows_skip (l : List Int) (g n : Nat) (hg : ¬ good (rd l n)) : rows l g (n + 1) = rows l g n := by
  unfold rows
  congr 1
  funext k
  simp only [ix]
  rw [if_neg (by intro hh; exact hg hh.1)]

/-- The inner loop: out grows till there is a list for k. -/
theorem pad_ev (l : List Int) (n : Nat) (hn : n < l.length) (hl : l.length ≤ 100) (hg : good (rd l n)) (r : List (List Int)) (d : Nat) : ∀ g, gr l n ≤ g → g ≤ 1001 → (rd l n).toNat + 1 - g = d →
    Ev (fun k => comps_Lists.l0 k (rows l (max g ((rd l n).toNat + 1)) (n + 1)) l l.length (n + 1 : Nat)) r →
    Ev (fun k => comps_Lists.l1 k (rows l g n) n (rd l n) l l.length n) r := by
  have h0 := hg.1
  have h1 := hg.2
  induction d with
  | zero =>
    intro g h hb hd hr
    refine Ev.step (fun k => ?_) hr
    simp only [comps_Lists.l1]
    rw [rows_len, if_neg (by omega), if_pos h0, if_pos (by omega), rows_at l g n _ h0 (by omega), if_pos (by have := ix_len l (rd l n).toNat n; omega)]
    rw [← rows_at l g n _ h0 (by omega), rows_set l g n hg (by omega), wrap_id (by omega) (by omega), Nat.max_eq_left (by omega)]
    rfl
  | succ d ih =>
    intro g h hb hd hr
    refine Ev.step (f := fun k => comps_Lists.l1 k (rows l (g + 1) n) n (rd l n) l l.length n) (fun k => ?_) (ih (g + 1) (by omega) (by omega) (by omega) ?_)
    · simp only [comps_Lists.l1]
      rw [rows_len, if_pos (by omega), if_pos (by omega), rows_pad l g n h]
    · rw [show max (g + 1) ((rd l n).toNat + 1) = max g ((rd l n).toNat + 1) by omega]
      exact hr

theorem lists_ev (l : List Int) (hl : l.length ≤ 100) (d : Nat) : ∀ n, n ≤ l.length → l.length - n = d →
    Ev (fun k => comps_Lists.l0 k (rows l (gr l n) n) l l.length n) (rows l (gr l l.length) l.length) := by
  induction d with
  | zero =>
    intro n hn hd
    obtain rfl : n = l.length := by omega
    refine Ev.step (f := fun _ => some (rows l (gr l l.length) l.length)) (fun k => ?_) (Ev.now _)
    simp only [comps_Lists.l0]
    rw [if_neg (by omega)]
  | succ d ih =>
    intro n hn hd
    have hnx := ih (n + 1) (by omega) (by omega)
    by_cases hneg : rd l n < 0
    · have hg : ¬ good (rd l n) := by intro h; have := h.1; omega
      refine Ev.step (f := fun k => comps_Lists.j1 k (rows l (gr l n) n) n (rd l n) l l.length n true) (fun k => ?_) (Ev.step (fun k => ?_) hnx)
      · simp only [comps_Lists.l0]
        rw [if_pos (by omega), if_pos (by omega), if_pos (by omega), if_pos hneg]
      · simp only [comps_Lists.j1]
        rw [if_pos trivial, wrap_id (by omega) (by omega), rows_skip l _ n hg]
        simp only [gr]
        rw [if_neg hg]
        rfl
    · by_cases hbig : rd l n > 1000
      · have hg : ¬ good (rd l n) := by intro h; have := h.2; omega
        refine Ev.step (f := fun k => comps_Lists.j1 k (rows l (gr l n) n) n (rd l n) l l.length n true) (fun k => ?_) (Ev.step (fun k => ?_) hnx)
        · simp only [comps_Lists.l0]
          rw [if_pos (by omega), if_pos (by omega), if_pos (by omega), if_neg hneg, decide_eq_true hbig]
        · simp only [comps_Lists.j1]
          rw [if_pos trivial, wrap_id (by omega) (by omega), rows_skip l _ n hg]
          simp only [gr]
          rw [if_neg hg]
          rfl
      · have hg : good (rd l n) := ⟨by omega, by omega⟩
        refine Ev.step (f := fun k => comps_Lists.j1 k (rows l (gr l n) n) n (rd l n) l l.length n false) (fun k => ?_) (Ev.step (f := fun k => comps_Lists.l1 k (rows l (gr l n) n) n (rd l n) l l.length n) (fun k => ?_) (pad_ev l n (by omega) hl hg _ _ (gr l n) (Nat.le_refl _) (gr_le l n) rfl ?_))
        · simp only [comps_Lists.l0]
          rw [if_pos (by omega), if_pos (by omega), if_pos (by omega), if_neg hneg, decide_eq_false hbig]
        · simp only [comps_Lists.j1]
          rw [if_neg (by simp)]
        · simp only [gr] at hnx
          rw [if_pos hg] at hnx
          exact hnx

theorem Lists_ev (l : List Int) (hl : l.length ≤ 100) : Ev (fun k => comps_Lists.f k l) (rows l (gr l l.length) l.length) := lists_ev l hl l.length 0 (by omega) (by omega)

/-- How many stand in the first g lists. -/
def many (l : List Int) (n : Nat) : Nat → Nat
  | 0 => 0
  | g + 1 => many l n g + (ix l g n).length
theorem many_skip (l : List Int) (n : Nat) (hg : ¬ good (rd l n)) : ∀ g, many l (n + 1) g = many l n g
  | 0 => rfl
  | g + 1 => by
    simp only [many, ix]
    rw [many_skip l n hg g, if_neg (by intro hh; exact hg hh.1)]
theorem many_step (l : List Int) (n : Nat) (hg : good (rd l n)) : ∀ g, many l (n + 1) g = many l n g + if (rd l n).toNat < g then 1 else 0
  | 0 => by simp [many]
  | g + 1 => by
    have h0 := hg.1
    simp only [many, ix]
    rw [many_step l n hg g]
    by_cases e : rd l n = g
    · have p : good (rd l n) ∧ rd l n = (g : Int) := ⟨hg, e⟩
      have q : ¬ (rd l n).toNat < g := by omega
      have q' : (rd l n).toNat < g + 1 := by omega
      rw [if_pos p, if_neg q, if_pos q', List.length_append, List.length_singleton]
      omega
    · have p : ¬ (good (rd l n) ∧ rd l n = (g : Int)) := fun hh => e hh.2
      rw [if_neg p]
      by_cases hlt : (rd l n).toNat < g
      · rw [if_pos hlt, if_pos (by omega)]; omega
      · rw [if_neg hlt, if_neg (by omega)]; omega
theorem many_all (l : List Int) : ∀ n g, gr l n ≤ g → many l n g = cnt l n
  | 0, g, _ => by
    induction g with
    | zero => rfl
    | succ g ih => simp only [many, ih (by simp [gr]), ix, cnt]; rfl
  | n + 1, g, h => by
    simp only [gr] at h
    simp only [cnt]
    by_cases hg : good (rd l n)
    · rw [if_pos hg] at h
      rw [if_pos hg, many_step l n hg, if_pos (by omega), many_all l n g (by omega)]
    · rw [if_neg hg] at h
      rw [if_neg hg, many_skip l n hg, many_all l n g h]
theorem many_mono (l : List Int) (n : Nat) (g : Nat) : ∀ h, many l n g ≤ many l n (g + h)
  | 0 => Nat.le_refl _
  | h + 1 => Nat.le_trans (many_mono l n g h) (by show _ ≤ many l n (g + h) + _; omega)


/-- The law's last loop, over one list. -/
theorem row_ev (l : List Int) (hl : l.length ≤ 100) (g : Nat) (hg1 : g ≤ 1001) (k : Nat) (hk : k < g) (m x5 : Int) (hm : -1000000 ≤ m ∧ m ≤ 1000000) (r : Bool) (d : Nat) : ∀ (j : Nat) (x4 : Int), j ≤ (ix l k l.length).length → (ix l k l.length).length - j = d → x4 = m - j →
    Ev (fun q => antecedentlaw12_CompsLists.l1 q l (rows l g l.length) (m - (ix l k l.length).length) x5 g (k + 1 : Nat)) r →
    Ev (fun q => antecedentlaw12_CompsLists.l2 q l (rows l g l.length) x4 x5 k g k (ix l k l.length).length j) r := by
  have hlen := ix_len l k l.length
  obtain ⟨hall, hpw⟩ := ix_all l k l.length
  induction d with
  | zero =>
    intro j x4 hj hd hx hr
    obtain rfl : j = (ix l k l.length).length := by omega
    refine Ev.step (fun q => ?_) hr
    simp only [antecedentlaw12_CompsLists.l2]
    rw [if_neg (by omega), wrap_id (by omega) (by omega), hx]
    rfl
  | succ d ih =>
    intro j x4 hj hd hx hr
    have hjl : j < (ix l k l.length).length := by omega
    have hat : rd_L2 (rows l g l.length) (k : Int) = ix l k l.length := by rw [rows_at l g _ _ (by omega) (by omega)]; simp
    have he : rd (ix l k l.length) (j : Int) = (ix l k l.length)[j] := by simp [rd, hjl]
    obtain ⟨a1, a2, a3⟩ := hall _ (List.getElem_mem hjl)
    refine Ev.step (f := fun q => antecedentlaw12_CompsLists.l2 q l (rows l g l.length) (x4 - 1) x5 k g k (ix l k l.length).length (j + 1 : Nat)) (fun q => ?_) (ih (j + 1) (x4 - 1) (by omega) (by omega) (by omega) hr)
    simp only [antecedentlaw12_CompsLists.l2]
    rw [if_pos (by omega), if_pos (by omega), rows_len, if_pos (by omega), if_pos (by omega), hat, if_pos (by omega), he]
    rw [if_neg (by omega), if_neg (by omega), if_pos (by omega), if_pos (by omega), if_pos a3]
    by_cases h0 : j = 0
    · subst h0
      rw [if_neg (by omega), wrap_id (by omega) (by omega), wrap_id (by omega) (by omega)]
      rfl
    · have e1 : wrap64 ((j : Int) - 1) = ((j - 1 : Nat) : Int) := by rw [wrap_id (by omega) (by omega)]; omega
      have he1 : rd (ix l k l.length) ((j - 1 : Nat) : Int) = (ix l k l.length)[j - 1]'(by omega) := by simp [rd, show j - 1 < (ix l k l.length).length by omega]
      have hlt : (ix l k l.length)[j - 1]'(by omega) < (ix l k l.length)[j] := List.pairwise_iff_getElem.1 hpw (j - 1) j (by omega) hjl (by omega)
      rw [if_pos (by omega), e1, if_pos (by omega), if_pos (by omega), he1, if_neg (by omega), wrap_id (by omega) (by omega), wrap_id (by omega) (by omega)]
      rfl

theorem all_ev (l : List Int) (hl : l.length ≤ 100) (g : Nat) (hg1 : g ≤ 1001) (hgr : gr l l.length = g) (d : Nat) : ∀ (k : Nat), k ≤ g → g - k = d →
    Ev (fun q => antecedentlaw12_CompsLists.l1 q l (rows l g l.length) ((cnt l l.length : Int) - many l l.length k) ((g : Int) - 1) g k) true := by
  have hc := cnt_le l l.length
  have hmany := many_all l l.length g (by omega)
  induction d with
  | zero =>
    intro k hk hd
    obtain rfl : k = g := by omega
    refine Ev.step (f := fun _ => some true) (fun q => ?_) (Ev.now _)
    simp only [antecedentlaw12_CompsLists.l1]
    rw [if_neg (by omega), hmany, if_pos (by omega), rows_len, wrap_id (by omega) (by omega)]
    simp
  | succ d ih =>
    intro k hk hd
    have hkg : k < g := by omega
    have hmk := many_mono l l.length k (g - k)
    rw [show k + (g - k) = g by omega, hmany] at hmk
    have hat : rd_L2 (rows l g l.length) (k : Int) = ix l k l.length := by rw [rows_at l g _ _ (by omega) (by omega)]; simp
    refine Ev.step (f := fun q => antecedentlaw12_CompsLists.l2 q l (rows l g l.length) ((cnt l l.length : Int) - many l l.length k) ((g : Int) - 1) k g k (ix l k l.length).length (0 : Nat)) (fun q => ?_) (row_ev l hl g hg1 k hkg ((cnt l l.length : Int) - many l l.length k) _ (by omega) true _ 0 _ (by omega) rfl (by simp) ?_)
    · simp only [antecedentlaw12_CompsLists.l1]
      rw [if_pos (by omega), if_pos (by omega), rows_len, if_pos (by omega), hat]
      rfl
    · have := ih (k + 1) (by omega) (by omega)
      rw [show ((cnt l l.length : Int) - many l l.length (k + 1)) = (cnt l l.length : Int) - many l l.length k - (ix l k l.length).length by show _ - ((many l l.length k + _ : Nat) : Int) = _; omega] at this
      exact this

theorem count_ev (l : List Int) (hl : l.length ≤ 100) (L : List (List Int)) (r : Bool) (d : Nat) : ∀ n, n ≤ l.length → l.length - n = d →
    Ev (fun q => antecedentlaw12_CompsLists.l1 q l L (cnt l l.length) ((gr l l.length : Int) - 1) L.length 0) r →
    Ev (fun q => antecedentlaw12_CompsLists.l0 q l L (cnt l n) ((gr l n : Int) - 1) l.length n) r := by
  induction d with
  | zero =>
    intro n hn hd hr
    obtain rfl : n = l.length := by omega
    refine Ev.step (fun q => ?_) hr
    simp only [antecedentlaw12_CompsLists.l0]
    rw [if_neg (by omega)]
  | succ d ih =>
    intro n hn hd hr
    have hnx := ih (n + 1) (by omega) (by omega) hr
    have hc := cnt_le l n
    have hgl := gr_le l n
    refine Ev.step (fun q => ?_) hnx
    simp only [antecedentlaw12_CompsLists.l0, gr, cnt]
    rw [if_pos (by omega), if_pos (by omega), if_pos (by omega)]
    by_cases hg : good (rd l n)
    · rw [if_pos hg, if_pos hg, if_pos (show rd l n ≥ 0 from hg.1), if_pos hg.2, wrap_id (by omega) (by omega), wrap_id (by omega) (by omega)]
      have h0 := hg.1
      have e : mx ((gr l n : Int) - 1) (rd l n) = ((max (gr l n) ((rd l n).toNat + 1) : Nat) : Int) - 1 := by unfold mx; split <;> omega
      rw [e]
      rfl
    · rw [if_neg hg, if_neg hg]
      by_cases h0 : rd l n ≥ 0
      · rw [if_pos h0, if_neg (by intro h; exact hg ⟨h0, h⟩), wrap_id (by omega) (by omega)]
        rfl
      · rw [if_neg h0, wrap_id (by omega) (by omega)]
        rfl

theorem CompsLists : antecedentlaw12_CompsLists.Pure := by
  intro l _ _ _
  refine Ev.rounds (r := true) ?_
  refine Ev.bind (f := fun k t => if t = true then antecedentlaw12_CompsLists.j0 k l (decide ((l.length : Int) > 100)) else antecedentlaw12_CompsLists.j0 k l true) awake_ev ?_
  refine Ev.congr (f := fun k => antecedentlaw12_CompsLists.j0 k l (decide ((l.length : Int) > 100))) (fun k => by rw [if_pos rfl]) ?_
  by_cases hl : (l.length : Int) > 100
  · refine Ev.step (f := fun k => (antecedentlaw12_awake.f k).bind fun t => some t) (fun k => ?_) (Ev.bind awake_ev (Ev.now _))
    simp only [antecedentlaw12_CompsLists.j0]
    rw [if_pos (by simpa using hl)]
  · have hl' : l.length ≤ 100 := by omega
    refine Ev.step (f := fun k => (comps_Lists.f k l).bind fun t => antecedentlaw12_CompsLists.l0 k l t 0 (-1) (l.length : Int) 0) (fun k => ?_) (Ev.bind (Lists_ev l hl') ?_)
    · simp only [antecedentlaw12_CompsLists.j0]
      rw [if_neg (by simpa using hl)]
    · have h := all_ev l hl' (gr l l.length) (gr_le l _) rfl _ 0 (by omega) rfl
      rw [show ((cnt l l.length : Int) - many l l.length 0) = (cnt l l.length : Int) by simp [many]] at h
      have h2 := count_ev l hl' (rows l (gr l l.length) l.length) true _ 0 (by omega) rfl (by rw [rows_len]; exact h)
      simpa [cnt, gr] using h2

end Go.Proofs.Ytigpeemgnocdhaa.Pure
