
/- StrataPlain's pure statement: without what fails, is folded or reckoned with a program is never wrong, and has the same lists as with it, if it isn't wrong then; for all sizes of names that a string can have. -/
import Derived.Test.YtfkilcegdajdcaaGPlain
import Derived.Test.YtfkilcegdajdcaaCoreG
namespace Go.Proofs.Ytfkilcegdajdcaa.Pure
open Go.RowKit Go.Proofs.Ytfkilcegdajdcaa.PZ Go.Proofs.Ytfkilcegdajdcaa.Core Go.Proofs.YtfkilcegdajdcaaW.PrintWords Go.Proofs.YtfkilcegdajdcaaW.PrintLast Go.Proofs.YtfkilcegdajdcaaW.PrintMore
set_option linter.unusedVariables false
theorem uses_plain (x : S46) : uses (plainL x) = uses x := by
  unfold plainL
  split
  · rename_i h
    unfold uses raws
    simp [h]
  · rfl
theorem uses_let {x : S46} (h : x.f0 = 4) : uses x = [] := by
  unfold uses raws
  simp [h, Ord.sorted, Ord.nsort]
theorem plain_let (x : S46) : (plainL x).f0 = 4 ↔ x.f0 = 4 := by
  unfold plainL
  split
  · rename_i h; simp [h]
  · rfl
theorem plain_mem (b : List S46) (s : ByteArray) : (∃ x ∈ plainB b, s ∈ uses x) ↔ ∃ x ∈ b, s ∈ uses x := by
  unfold plainB
  constructor
  · rintro ⟨x, hx, hs⟩
    obtain ⟨y, hy, rfl⟩ := List.mem_map.1 (List.mem_filter.1 hx).1
    exact ⟨y, hy, by rw [← uses_plain]; exact hs⟩
  · rintro ⟨y, hy, hs⟩
    by_cases h4 : y.f0 = 4
    · rw [uses_let h4] at hs; cases hs
    · exact ⟨plainL y, List.mem_filter.2 ⟨List.mem_map.2 ⟨y, hy, rfl⟩, by simpa [plain_let] using h4⟩, by rw [uses_plain]; exact hs⟩
theorem names_plain (a : ByteArray) (rs : List S39) : names a (rs.map plainR) = names a rs := by
  refine names_same fun s => ?_
  constructor
  · rintro ⟨r, hr, h⟩
    obtain ⟨q, hq, rfl⟩ := List.mem_map.1 hr
    exact ⟨q, hq, h.imp id (plain_mem q.f2 s).1⟩
  · rintro ⟨q, hq, h⟩
    exact ⟨plainR q, List.mem_map.2 ⟨q, hq, rfl⟩, h.imp id (plain_mem q.f2 s).2⟩
theorem needs_plain (ns : List ByteArray) (rs : List S39) : needs ns (rs.map plainR) = needs ns rs := by
  refine needs_same fun z => ?_
  rw [needs_mem, needs_mem]
  constructor
  · rintro ⟨r, hr, x, hx, s, hs, rfl⟩
    obtain ⟨q, hq, rfl⟩ := List.mem_map.1 hr
    obtain ⟨y, hy, hs'⟩ := (plain_mem q.f2 s).1 ⟨x, hx, hs⟩
    exact ⟨q, hq, y, hy, s, hs', rfl⟩
  · rintro ⟨q, hq, y, hy, s, hs, rfl⟩
    obtain ⟨x, hx, hs'⟩ := (plain_mem q.f2 s).2 ⟨y, hy, hs⟩
    exact ⟨plainR q, List.mem_map.2 ⟨q, hq, rfl⟩, x, hx, s, hs', rfl⟩
theorem tot_plain : ∀ b : List S46, totB (plainB b) ≤ totB b
  | [] => Nat.le_refl _
  | x :: t => by
    have h1 := tot_plain t
    have h6 : (plainL x).f6 = x.f6 := by unfold plainL; split <;> rfl
    unfold plainB at h1 ⊢
    rw [List.map_cons]
    by_cases h4 : (plainL x).f0 = 4
    · rw [List.filter_cons_of_neg (by simp [h4])]
      simp only [totB, List.map_cons, List.sum_cons] at h1 ⊢
      omega
    · rw [List.filter_cons_of_pos (by simp [h4])]
      simp only [totB, List.map_cons, List.sum_cons, h6] at h1 ⊢
      omega
theorem totR_plain : ∀ rs : List S39, totR (rs.map plainR) ≤ totR rs
  | [] => Nat.le_refl _
  | r :: t => by
    have h1 := totR_plain t
    have h2 := tot_plain r.f2
    simp only [totR, List.map_cons, List.sum_cons, plainR] at h1 ⊢
    omega
theorem small_plain {rs : List S39} (h : Small rs) : Small (rs.map plainR) where
  n := by rw [List.length_map]; exact h.n
  b := by
    intro r hr
    obtain ⟨q, hq, rfl⟩ := List.mem_map.1 hr
    have h1 := List.length_filter_le (fun x : S46 => decide (x.f0 ≠ 4)) (q.f2.map plainL)
    have h2 := h.b q hq
    rw [List.length_map] at h1
    exact Nat.le_trans h1 h2
  t := Nat.le_trans (totR_plain rs) h.t
theorem plain_fair (ns : List ByteArray) (of : List Int) (rs : List S39) : (rs.map plainR).any (badR ns of) = false ∧ (rs.map plainR).any (cycR ns of) = false := by
  constructor
  · rw [List.any_eq_false]
    intro r hr
    obtain ⟨q, hq, rfl⟩ := List.mem_map.1 hr
    unfold badR
    rw [Bool.not_eq_true, List.any_eq_false]
    intro z hz
    obtain ⟨y, hy, e⟩ := List.mem_map.1 (List.mem_filter.1 ((allU_mem _ _).1 hz).1).1
    have : z.1.f0 ≠ 2 := by
      rw [← e]
      unfold plainL
      split
      · simp
      · assumption
    simp [plainR, this]
  · rw [List.any_eq_false]
    intro r hr
    obtain ⟨q, hq, rfl⟩ := List.mem_map.1 hr
    unfold cycR
    rw [Bool.not_eq_true, List.any_eq_false]
    intro z hz
    have : (plainR q).f2.any isLet = false := by
      rw [List.any_eq_false]
      intro x hx
      have := (List.mem_filter.1 hx).2
      simpa [isLet] using this
    simp [this]
theorem StrataPlain (rs : List S39) (a : ByteArray) (l2 : List S43) (hr : ∀ r ∈ rs, G39 r) (ha : a.size ≤ 9223372036854775807) : ∃ k, antecedentlaw13_StrataPlain.f k rs a l2 = some true := by
  obtain ⟨b, hb, hS⟩ := few_ev rs a l2
  obtain ⟨K1, p1⟩ := awake_ev
  obtain ⟨K2, p2⟩ := hb
  cases b with
  | false =>
    refine ⟨K1 + K2, ?_⟩
    have e1 := p1 (K1 + K2) (by omega)
    have e2 := p2 (K1 + K2) (by omega)
    dsimp only at e1 e2
    unfold antecedentlaw13_StrataPlain.f
    rw [e1, Option.bind_some, if_pos rfl, e2, Option.bind_some, if_neg (by simp)]
  | true =>
    have h := hS rfl
    have hsz := names_size a rs ha hr
    obtain ⟨of, l, e, ⟨K3, p3⟩, T⟩ := Strata_ev a rs l2 h hsz
    obtain ⟨of', l', e', ⟨K4, p4⟩, T'⟩ := Strata_ev a (rs.map plainR) l2 (small_plain h) (by rw [names_plain]; exact hsz)
    have hok' := T'.ok
    rw [names_plain, needs_plain] at hok'
    obtain rfl := ok_unique T.ok hok'
    have hres := T'.res
    rw [names_plain, (plain_fair _ of rs).1, (plain_fair _ of rs).2] at hres
    obtain ⟨hl', he'⟩ : l' = lists (names a rs) of ∧ e' = 0 := by
      unfold res at hres
      simp only [Bool.false_eq_true, if_false, Prod.mk.injEq] at hres
      exact hres
    obtain ⟨K5, p5⟩ := lists_same a rs h of T.ok.1
    refine ⟨K1 + K2 + K3 + K4 + K5, ?_⟩
    have e1 := p1 (K1 + K2 + K3 + K4 + K5) (by omega)
    have e2 := p2 (K1 + K2 + K3 + K4 + K5) (by omega)
    have e3 := p3 (K1 + K2 + K3 + K4 + K5) (by omega)
    have e4 := p4 (K1 + K2 + K3 + K4 + K5) (by omega)
    have e5 := p5 (K1 + K2 + K3 + K4 + K5) (by omega)
    dsimp only at e1 e2 e3 e4 e5
    unfold antecedentlaw13_StrataPlain.f
    rw [e1, Option.bind_some, if_pos rfl, e2, Option.bind_some, if_pos rfl, if_pos ⟨by have := h.n; omega, fun r hr => by have := h.b r hr; omega⟩, e3, Option.bind_some, e4, Option.bind_some]
    dsimp only
    rw [if_pos he', hl']
    by_cases h0 : e = 0
    · rw [if_pos h0, T.all h0]
      exact e5
    · rw [if_neg h0]
end Go.Proofs.Ytfkilcegdajdcaa.Pure
