
/- StrataAhead's pure statement: what a rule needs stands with its head or ahead of it, ahead of it if it must fail, is folded or reckoned with, and each name stands in one list; for all sizes of names that a string can have. -/
import Derived.Test.YtfkilcegdajdcaaPZx9
import Derived.Test.YtfkilcegdajdcaaCoreS
import Derived.Test.YtfkilcegdajdcaaCoreP
namespace Go.Proofs.Ytfkilcegdajdcaa.Pure
open Go.RowKit Go.Proofs.Ytfkilcegdajdcaa.PZ Go.Proofs.Ytfkilcegdajdcaa.Core Go.Proofs.YtfkilcegdajdcaaW.PrintWords Go.Proofs.YtfkilcegdajdcaaW.PrintLast Go.Proofs.YtfkilcegdajdcaaW.PrintMore
set_option linter.unusedVariables false
set_option linter.unusedSectionVars false
theorem awake_ev : Ev (fun k => antecedentlaw13_awake.f k) true := ⟨60, fun k hk => by show antecedentlaw13_awake.f k = some true; unfold antecedentlaw13_awake.f; rw [if_pos hk]⟩
def G46 (x : S46) : Prop := x.f1.f0.size ≤ 9223372036854775807 ∧ ∀ q ∈ x.f6, q.f1.size ≤ 9223372036854775807
def G39 (r : S39) : Prop := r.f0.f0.size ≤ 9223372036854775807 ∧ ∀ x ∈ r.f2, G46 x
theorem names_size (a : ByteArray) (rs : List S39) (ha : a.size ≤ 9223372036854775807) (hr : ∀ r ∈ rs, G39 r) : ∀ s ∈ names a rs, s.size ≤ 9223372036854775807 := by
  intro s hs
  rcases (names_mem a rs s).1 hs with rfl | ⟨r, hm, rfl | ⟨x, hx, hu⟩⟩
  · exact ha
  · exact (hr r hm).1
  · have hu : s ∈ raws x := (Ord.nsort_mem Ord.linS _ _).1 hu
    obtain ⟨g1, g2⟩ := (hr r hm).2 x hx
    unfold raws at hu
    split at hu
    · rw [List.mem_singleton] at hu; subst hu; exact g1
    · split at hu
      · obtain ⟨q, hq, rfl⟩ := List.mem_map.1 hu
        exact g2 q (List.mem_filter.1 hq).1
      · cases hu
section
variable (a : ByteArray) (rs : List S39) (l2 : List S43) (h : Small rs) (of : List Int) (hok : Ok (names a rs).length (Core.Edge (names a rs).length (needs (names a rs) rs)) of)
include h hok
theorem of_good (i : Nat) (hi : i < (names a rs).length) : good (rd of i) := by
  have hn := names_len h a
  have := hok.2.nn i hi
  have := hok.2.lt hi
  exact ⟨by assumption, by omega⟩
theorem lists_len : (lists (names a rs) of).length = gr of of.length := by unfold lists; rw [List.length_map, rows_len]
theorem lists_row (i : Nat) (hi : i < (lists (names a rs) of).length) : (lists (names a rs) of)[i] = listed (names a rs) (ix of i of.length) := by
  simp [lists, rows]
theorem row_len (i : Nat) (hi : i < (lists (names a rs) of).length) : (lists (names a rs) of)[i].length = (ix of i of.length).length := by
  rw [lists_row a rs h of hok i hi]; simp [listed]
theorem gr_small : gr of of.length ≤ 1000 := by
  have hn := names_len h a
  have hlen := hok.1
  have : ∀ n, n ≤ of.length → gr of n ≤ 1000 := by
    intro n
    induction n with
    | zero => intro _; simp [gr]
    | succ n ih =>
      intro hle
      have := ih (by omega)
      have hlt := hok.2.lt (i := n) (by omega)
      have hnn := hok.2.nn n (by omega)
      simp only [gr]
      split <;> omega
  exact this _ (Nat.le_refl _)
theorem place_name {s : ByteArray} (hs : s ∈ names a rs) : Ev (fun k => antecedentlaw13_place.f k (lists (names a rs) of) s) (rd of (pos (names a rs) s)) := by
  have hn := names_len h a
  have hlen := hok.1
  have hp := pos_lt hs
  have hg := of_good a rs h of hok _ hp
  have h0 := hg.1
  have hc : (rd of (pos (names a rs) s)).toNat < (lists (names a rs) of).length := by
    rw [lists_len a rs h of hok]
    exact gr_lt of _ of.length (by omega) hg
  have hmem : ((pos (names a rs) s : Nat) : Int) ∈ ix of (rd of (pos (names a rs) s)).toNat of.length := (ix_mem of _ _ _).2 ⟨by omega, hg, by omega⟩
  obtain ⟨m0, hm0, hme⟩ := List.getElem_of_mem hmem
  have hml : m0 < (lists (names a rs) of)[(rd of (pos (names a rs) s)).toNat].length := by rw [row_len a rs h of hok]; exact hm0
  have key : ∀ i (hi : i < (lists (names a rs) of).length) j (hj : j < (lists (names a rs) of)[i].length), ∃ (hj' : j < (ix of i of.length).length) (hy : (ix of i of.length)[j].toNat < (names a rs).length), (lists (names a rs) of)[i][j] = (names a rs)[(ix of i of.length)[j].toNat] ∧ 0 ≤ (ix of i of.length)[j] ∧ rd of (ix of i of.length)[j] = i := by
    intro i hi j hj
    have hj' : j < (ix of i of.length).length := by rw [← row_len a rs h of hok i hi]; exact hj
    obtain ⟨y0, y1, y2⟩ := (ix_all of i of.length).1 _ (List.getElem_mem hj')
    refine ⟨hj', by omega, ?_, y0, y2⟩
    have e : (lists (names a rs) of)[i][j] = (listed (names a rs) (ix of i of.length))[j]'(by simp [listed]; exact hj') := by simp only [lists_row a rs h of hok i hi]
    rw [e]
    simp only [listed, List.getElem_map]
    have := rdS_at (names a rs) (ix of i of.length)[j].toNat (by omega)
    rwa [Int.toNat_of_nonneg y0] at this
  have := place_ev (lists (names a rs) of) s (by rw [lists_len a rs h of hok]; exact gr_small a rs h of hok) (fun x hx => by
    obtain ⟨i, hi, rfl⟩ := List.getElem_of_mem hx
    rw [row_len a rs h of hok]
    have := ix_len of i of.length
    omega) _ m0 hc hml (by
      obtain ⟨hj', hy, e, _, _⟩ := key _ hc m0 hml
      rw [e]
      have : (ix of (rd of (pos (names a rs) s)).toNat of.length)[m0].toNat = pos (names a rs) s := by rw [hme]; rfl
      simp only [this]
      exact pos_at hs) (fun i hi j hj hne e => by
      obtain ⟨hj', hy, e', y0, y2⟩ := key i hi j hj
      rw [e'] at e
      have e2 : (ix of i of.length)[j].toNat = pos (names a rs) s := up_inj (names_up a rs) hy hp (e.trans (pos_at hs).symm)
      have e3 : (ix of i of.length)[j] = ((pos (names a rs) s : Nat) : Int) := by omega
      rw [e3] at y2
      obtain rfl : i = (rd of (pos (names a rs) s)).toNat := by omega
      refine hne ⟨rfl, ?_⟩
      have hpw := (ix_all of (rd of (pos (names a rs) s)).toNat of.length).2
      rcases Nat.lt_trichotomy j m0 with hlt | hlt | hlt
      · have := List.pairwise_iff_getElem.1 hpw j m0 hj' hm0 hlt; omega
      · exact hlt
      · have := List.pairwise_iff_getElem.1 hpw m0 j hm0 hj' hlt; omega)
  rwa [Int.toNat_of_nonneg h0] at this
theorem needs_le {r : S39} (hr : r ∈ rs) {x : S46} (hx : x ∈ r.f2) {s : ByteArray} (hs : s ∈ uses x) : rd of (pos (names a rs) s) ≤ rd of (pos (names a rs) r.f0.f0) := by
  have m1 : r.f0.f0 ∈ names a rs := (names_mem a rs _).2 (.inr ⟨r, hr, .inl rfl⟩)
  have m2 : s ∈ names a rs := (names_mem a rs _).2 (.inr ⟨r, hr, .inr ⟨x, hx, hs⟩⟩)
  exact hok.2.down (pos_lt m1) (pos_lt m2) (R.one ⟨pos_lt m1, pos_lt m2, _, (needs_mem _ _ _).2 ⟨r, hr, x, hx, s, hs, rfl⟩, rfl, rfl⟩)
variable (hf : ∀ r ∈ rs, fair (names a rs) of r)
include hf
theorem l5_ev (r : S39) (hr : r ∈ rs) (n : Nat) (m : Nat) (hm : m < r.f2.length) (lt : Bool) (hlt : lt = true → r.f1 > 0 ∨ r.f2.any isLet = true) (X : Int) (d : Nat)
    (cont : Ev (fun k => antecedentlaw13_StrataAhead.l4 k (lists (names a rs) of) X (names a rs) (rd of (pos (names a rs) r.f0.f0)) lt rs.length n r.f2.length (m + 1 : Nat) rs a l2 r.f0.f0 r.f0.f1 r.f1 r.f2) true) : ∀ j : Nat, j ≤ (uses r.f2[m]).length → (uses r.f2[m]).length - j = d →
    Ev (fun k => antecedentlaw13_StrataAhead.l5 k (lists (names a rs) of) X (names a rs) (rd of (pos (names a rs) r.f0.f0)) lt m rs.length n r.f2.length m (uses r.f2[m]) (uses r.f2[m]).length j rs a l2 r.f0.f0 r.f0.f1 r.f1 r.f2) true := by
  have hb := h.b r hr
  have hul : (uses r.f2[m]).length ≤ 100 := by have := uses_len r.f2[m]; have := h.lit hr (List.getElem_mem hm); omega
  induction d with
  | zero =>
    intro j hj hd
    refine Ev.step (fun k => ?_) cont
    simp only [antecedentlaw13_StrataAhead.l5]
    rw [if_neg (by omega), up1 m (by omega)]
  | succ d ih =>
    intro j hj hd
    have hl : j < (uses r.f2[m]).length := by omega
    have hx : r.f2[m] ∈ r.f2 := List.getElem_mem hm
    have hs : (uses r.f2[m])[j] ∈ uses r.f2[m] := List.getElem_mem hl
    have hin : (uses r.f2[m])[j] ∈ names a rs := (names_mem a rs _).2 (.inr ⟨r, hr, .inr ⟨_, hx, hs⟩⟩)
    have hle := needs_le a rs h of hok hr hx hs
    have h0 := (of_good a rs h of hok _ (pos_lt hin)).1
    have hc := ih (j + 1) (by omega) (by omega)
    refine Ev.step (f := fun k => (antecedentlaw13_place.f k (lists (names a rs) of) (uses r.f2[m])[j]).bind fun t => if t < 0 then some false else if t > rd of (pos (names a rs) r.f0.f0) then some false else if t = rd of (pos (names a rs) r.f0.f0) then (if lt = true then some false else if (0 : Int) ≤ m then if (m : Int) < r.f2.length then if r.f2[m].f0 = 2 then some false else antecedentlaw13_StrataAhead.l5 k (lists (names a rs) of) X (names a rs) (rd of (pos (names a rs) r.f0.f0)) lt m rs.length n r.f2.length m (uses r.f2[m]) (uses r.f2[m]).length (j + 1 : Nat) rs a l2 r.f0.f0 r.f0.f1 r.f1 r.f2 else none else none) else antecedentlaw13_StrataAhead.l5 k (lists (names a rs) of) X (names a rs) (rd of (pos (names a rs) r.f0.f0)) lt m rs.length n r.f2.length m (uses r.f2[m]) (uses r.f2[m]).length (j + 1 : Nat) rs a l2 r.f0.f0 r.f0.f1 r.f1 r.f2) (fun k => ?_) ?_
    · simp only [antecedentlaw13_StrataAhead.l5]
      rw [if_pos (by omega), if_pos (by omega), if_pos (by omega), rdS_at _ _ hl, up1 j (by omega), rd46_at r.f2 m hm]
    · obtain ⟨K1, p1⟩ := place_name a rs h of hok hin
      obtain ⟨K2, p2⟩ := hc
      refine ⟨K1 + K2, fun k hk => ?_⟩
      have e1 := p1 k (by omega)
      have e2 := p2 k (by omega)
      dsimp only at e1 e2 ⊢
      rw [e1, Option.bind_some, if_neg (by omega), if_neg (by omega)]
      by_cases e : rd of (pos (names a rs) (uses r.f2[m])[j]) = rd of (pos (names a rs) r.f0.f0)
      · obtain ⟨q1, q2, q3⟩ := hf r hr _ hx _ hs e
        rw [if_pos e, if_neg (fun hl => by rcases hlt hl with q | q; exact q2 q; rw [q3] at q; cases q), if_pos (by omega), if_pos (by omega), if_neg q1]
        exact e2
      · rw [if_neg e]
        exact e2
theorem l4_ev (r : S39) (hr : r ∈ rs) (n : Nat) (lt : Bool) (hlt : lt = true → r.f1 > 0 ∨ r.f2.any isLet = true) (X : Int) (d : Nat)
    (cont : Ev (fun k => antecedentlaw13_StrataAhead.l2 k (lists (names a rs) of) X (names a rs) rs.length (n + 1 : Nat) rs a l2) true) (hn : n < rs.length) : ∀ m : Nat, m ≤ r.f2.length → r.f2.length - m = d →
    Ev (fun k => antecedentlaw13_StrataAhead.l4 k (lists (names a rs) of) X (names a rs) (rd of (pos (names a rs) r.f0.f0)) lt rs.length n r.f2.length m rs a l2 r.f0.f0 r.f0.f1 r.f1 r.f2) true := by
  have hb := h.b r hr
  have hN := h.n
  induction d with
  | zero =>
    intro m hm hd
    refine Ev.step (fun k => ?_) cont
    simp only [antecedentlaw13_StrataAhead.l4]
    rw [if_neg (by omega), up1 n (by omega)]
  | succ d ih =>
    intro m hm hd
    have hl : m < r.f2.length := by omega
    refine Ev.step (f := fun k => (usesOf k r.f2[m]).bind fun t => antecedentlaw13_StrataAhead.l5 k (lists (names a rs) of) X (names a rs) (rd of (pos (names a rs) r.f0.f0)) lt m rs.length n r.f2.length m t t.length (0 : Nat) rs a l2 r.f0.f0 r.f0.f1 r.f1 r.f2) (fun k => ?_) ?_
    · simp only [antecedentlaw13_StrataAhead.l4]
      rw [if_pos (by omega), if_pos (by omega), if_pos (by omega), rd46_at r.f2 m hl]
      rfl
    · exact Ev.bind (f := fun k t => antecedentlaw13_StrataAhead.l5 k (lists (names a rs) of) X (names a rs) (rd of (pos (names a rs) r.f0.f0)) lt m rs.length n r.f2.length m t t.length (0 : Nat) rs a l2 r.f0.f0 r.f0.f1 r.f1 r.f2) (uses_ev r.f2[m] (by have := h.lit hr (List.getElem_mem hl); omega)) (l5_ev a rs l2 h of hok hf r hr n m hl lt hlt X _ (ih (m + 1) (by omega) (by omega)) 0 (by omega) rfl)
theorem l3_let (r : S39) (hr : r ∈ rs) (n : Nat) (X : Int) (cont : Ev (fun k => antecedentlaw13_StrataAhead.l2 k (lists (names a rs) of) X (names a rs) rs.length (n + 1 : Nat) rs a l2) true) (hn : n < rs.length) (d : Nat) :
    ∀ (m : Nat) (lt : Bool), m ≤ r.f2.length → r.f2.length - m = d → (lt = true → r.f1 > 0 ∨ r.f2.any isLet = true) →
    Ev (fun k => antecedentlaw13_StrataAhead.l3 k (lists (names a rs) of) X (names a rs) (rd of (pos (names a rs) r.f0.f0)) lt rs.length n r.f2.length m rs a l2 r.f0.f0 r.f0.f1 r.f1 r.f2) true := by
  have hb := h.b r hr
  induction d with
  | zero =>
    intro m lt hm hd hlt
    refine Ev.step (fun k => ?_) (l4_ev a rs l2 h of hok hf r hr n lt hlt X _ cont hn 0 (by omega) rfl)
    simp only [antecedentlaw13_StrataAhead.l3]
    rw [if_neg (by omega)]
    rfl
  | succ d ih =>
    intro m lt hm hd hlt
    have hl : m < r.f2.length := by omega
    cases lt with
    | true =>
      refine Ev.step (fun k => ?_) (ih (m + 1) true (by omega) (by omega) hlt)
      simp only [antecedentlaw13_StrataAhead.l3]
      rw [if_pos (by omega), if_pos trivial, up1 m (by omega)]
    | false =>
      refine Ev.step (fun k => ?_) (ih (m + 1) (r.f2[m].f0 == 4) (by omega) (by omega) (fun e => .inr (List.any_eq_true.2 ⟨_, List.getElem_mem hl, e⟩)))
      simp only [antecedentlaw13_StrataAhead.l3]
      rw [if_pos (by omega), if_neg (by simp), if_pos (by omega), if_pos (by omega), rd46_at r.f2 m hl, up1 m (by omega)]
theorem l2_law (d : Nat) : ∀ n : Nat, n ≤ rs.length → rs.length - n = d → Ev (fun k => antecedentlaw13_StrataAhead.l2 k (lists (names a rs) of) (names a rs).length (names a rs) rs.length n rs a l2) true := by
  have hN := h.n
  induction d with
  | zero =>
    intro n hn hd
    refine Ev.step (f := fun _ => some true) (fun k => ?_) (Ev.now _)
    simp only [antecedentlaw13_StrataAhead.l2]
    rw [if_neg (by omega)]
    simp
  | succ d ih =>
    intro n hn hd
    have hl : n < rs.length := by omega
    have hm : rs[n] ∈ rs := List.getElem_mem hl
    have hin : rs[n].f0.f0 ∈ names a rs := (names_mem a rs _).2 (.inr ⟨_, hm, .inl rfl⟩)
    refine Ev.step (f := fun k => (antecedentlaw13_place.f k (lists (names a rs) of) rs[n].f0.f0).bind fun t => antecedentlaw13_StrataAhead.l3 k (lists (names a rs) of) (names a rs).length (names a rs) t (decide (rs[n].f1 > 0)) rs.length n rs[n].f2.length (0 : Nat) rs a l2 rs[n].f0.f0 rs[n].f0.f1 rs[n].f1 rs[n].f2) (fun k => ?_) ?_
    · simp only [antecedentlaw13_StrataAhead.l2]
      rw [if_pos (by omega), if_pos (by omega), if_pos (by omega), rd39_at rs n hl]
      rfl
    · exact Ev.bind (f := fun k t => antecedentlaw13_StrataAhead.l3 k (lists (names a rs) of) (names a rs).length (names a rs) t (decide (rs[n].f1 > 0)) rs.length n rs[n].f2.length (0 : Nat) rs a l2 rs[n].f0.f0 rs[n].f0.f1 rs[n].f1 rs[n].f2) (place_name a rs h of hok hin) (l3_let a rs l2 h of hok hf rs[n] hm n _ (ih (n + 1) (by omega) (by omega)) hl _ 0 _ (by omega) rfl (fun e => .inl (of_decide_eq_true e)))
theorem l1_law (d : Nat) : ∀ n : Nat, n ≤ (names a rs).length → (names a rs).length - n = d → Ev (fun k => antecedentlaw13_StrataAhead.l1 k (lists (names a rs) of) (names a rs).length (names a rs) (names a rs).length n rs a l2) true := by
  have hn' := names_len h a
  induction d with
  | zero =>
    intro n hn hd
    refine Ev.step (fun k => ?_) (l2_law a rs l2 h of hok hf _ 0 (by omega) rfl)
    simp only [antecedentlaw13_StrataAhead.l1]
    rw [if_neg (by omega)]
    rfl
  | succ d ih =>
    intro n hn hd
    have hl : n < (names a rs).length := by omega
    have hin : (names a rs)[n] ∈ names a rs := List.getElem_mem hl
    have h0 := (of_good a rs h of hok _ (pos_lt hin)).1
    refine Ev.step (f := fun k => (antecedentlaw13_place.f k (lists (names a rs) of) (names a rs)[n]).bind fun t => if t < 0 then some false else antecedentlaw13_StrataAhead.l1 k (lists (names a rs) of) (names a rs).length (names a rs) (names a rs).length (n + 1 : Nat) rs a l2) (fun k => ?_) ?_
    · simp only [antecedentlaw13_StrataAhead.l1]
      rw [if_pos (by omega), if_pos (by omega), if_pos (by omega), rdS_at _ _ hl, up1 n (by omega)]
    · refine Ev.bind (f := fun k t => if t < 0 then some false else antecedentlaw13_StrataAhead.l1 k (lists (names a rs) of) (names a rs).length (names a rs) (names a rs).length (n + 1 : Nat) rs a l2) (place_name a rs h of hok hin) ?_
      simp only [if_neg (show ¬ rd of (pos (names a rs) (names a rs)[n]) < 0 by omega)]
      exact ih (n + 1) (by omega) (by omega)
theorem l0_law (d : Nat) : ∀ n : Nat, n ≤ (lists (names a rs) of).length → (lists (names a rs) of).length - n = d → Ev (fun k => antecedentlaw13_StrataAhead.l0 k (lists (names a rs) of) (many of of.length n) (lists (names a rs) of).length n rs a l2) true := by
  have hn' := names_len h a
  have hlen := hok.1
  have hG : gr of of.length ≤ 1001 := gr_le of of.length
  have hL := lists_len a rs h of hok
  have hall : many of of.length (gr of of.length) = (names a rs).length := by
    rw [many_all of of.length _ (Nat.le_refl _), cnt_all of of.length (fun i hi => of_good a rs h of hok i (by omega)), hlen]
  induction d with
  | zero =>
    intro n hn hd
    obtain rfl : n = gr of of.length := by omega
    refine Ev.step (f := fun k => (strata_Names.f k rs a l2).bind fun t => antecedentlaw13_StrataAhead.l1 k (lists (names a rs) of) (names a rs).length t t.length (0 : Nat) rs a l2) (fun k => ?_) ?_
    · simp only [antecedentlaw13_StrataAhead.l0]
      rw [if_neg (by omega), hall]
      rfl
    · exact Ev.bind (f := fun k t => antecedentlaw13_StrataAhead.l1 k (lists (names a rs) of) (names a rs).length t t.length (0 : Nat) rs a l2) (Names_ev a rs l2 h) (l1_law a rs l2 h of hok hf _ 0 (by omega) rfl)
  | succ d ih =>
    intro n hn hd
    have hl : n < (lists (names a rs) of).length := by omega
    refine Ev.step (fun k => ?_) (ih (n + 1) (by omega) (by omega))
    have hm : many of of.length n ≤ 151000 := by
      have : ∀ g, many of of.length g ≤ 151 * g := by
        intro g
        induction g with
        | zero => exact Nat.le_refl _
        | succ g ihg => simp only [many]; have := ix_len of g of.length; omega
      have := this n
      have hLn : n ≤ 1000 := by omega
      omega
    have hil := ix_len of n of.length
    simp only [antecedentlaw13_StrataAhead.l0]
    rw [if_pos (by omega), if_pos (by omega), if_pos (by omega), rdL1_at _ n hl, row_len a rs h of hok n hl, up1 n (by omega), wrap_id (by omega) (by omega), ← Int.natCast_add]
    rfl
end
theorem StrataAhead (rs : List S39) (a : ByteArray) (l2 : List S43) (hr : ∀ r ∈ rs, G39 r) (ha : a.size ≤ 9223372036854775807) : ∃ k, antecedentlaw13_StrataAhead.f k rs a l2 = some true := by
  obtain ⟨b, hb, hS⟩ := few_ev rs a l2
  suffices hj : Ev (fun k => antecedentlaw13_StrataAhead.j0 k (!b) rs a l2) true by
    obtain ⟨K1, p1⟩ := awake_ev
    obtain ⟨K2, p2⟩ := hb
    obtain ⟨K3, p3⟩ := hj
    refine ⟨K1 + K2 + K3, ?_⟩
    have e1 := p1 (K1 + K2 + K3) (by omega)
    have e2 := p2 (K1 + K2 + K3) (by omega)
    have e3 := p3 (K1 + K2 + K3) (by omega)
    dsimp only at e1 e2 e3
    unfold antecedentlaw13_StrataAhead.f
    rw [e1, Option.bind_some, if_pos rfl, e2, Option.bind_some]
    exact e3
  cases b with
  | false =>
    refine Ev.step (f := fun k => (antecedentlaw13_awake.f k).bind fun t => some t) (fun k => ?_) (Ev.bind (f := fun k t => some t) awake_ev (Ev.now _))
    simp only [antecedentlaw13_StrataAhead.j0]
    rw [if_pos (by rfl)]
  | true =>
    have h := hS rfl
    obtain ⟨of, l, e, he, T⟩ := Strata_ev a rs l2 h (names_size a rs ha hr)
    refine Ev.step (f := fun k => (strata_Strata.f k rs a l2).bind fun bt => if bt.2 = 0 then antecedentlaw13_StrataAhead.l0 k bt.1 0 bt.1.length 0 rs a l2 else some ((bt.1.length : Int) == 0)) (fun k => ?_) ?_
    · simp only [antecedentlaw13_StrataAhead.j0]
      rw [if_neg (by simp)]
    · obtain ⟨K1, p1⟩ := he
      by_cases h0 : e = 0
      · obtain ⟨K2, p2⟩ := l0_law a rs l2 h of T.ok (T.fair h0) _ 0 (by omega) rfl
        refine ⟨K1 + K2, fun k hk => ?_⟩
        have e1 := p1 k (by omega)
        have e2 := p2 k (by omega)
        dsimp only at e1 e2 ⊢
        rw [e1, Option.bind_some, if_pos h0, T.all h0]
        exact e2
      · refine ⟨K1, fun k hk => ?_⟩
        have e1 := p1 k (by omega)
        dsimp only at e1 ⊢
        rw [e1, Option.bind_some, if_neg h0, T.bad h0]
        rfl
end Go.Proofs.Ytfkilcegdajdcaa.Pure
