
/- StrataOrder's pure statement: the order of rules, and of literals, plays no part; for all sizes of names that a string can have. -/
import Derived.Test.YtfkilcegdajdcaaGOrder
import Derived.Test.YtfkilcegdajdcaaCoreG
namespace Go.Proofs.Ytfkilcegdajdcaa.Pure
open Go.RowKit Go.Proofs.Ytfkilcegdajdcaa.PZ Go.Proofs.Ytfkilcegdajdcaa.Core Go.Proofs.YtfkilcegdajdcaaW.PrintWords Go.Proofs.YtfkilcegdajdcaaW.PrintLast Go.Proofs.YtfkilcegdajdcaaW.PrintMore
set_option linter.unusedVariables false
theorem turn_mem (rs : List S39) (b : Int) (r : S39) : r ∈ turnR rs b ↔ ∃ q ∈ rs, r = revR q := by
  unfold turnR
  rw [List.mem_map]
  constructor
  · rintro ⟨q, hq, rfl⟩; exact ⟨q, (turnS_mem _ _ _).1 hq, rfl⟩
  · rintro ⟨q, hq, rfl⟩; exact ⟨q, (turnS_mem _ _ _).2 hq, rfl⟩
theorem names_turn (a : ByteArray) (rs : List S39) (b : Int) : names a (turnR rs b) = names a rs := by
  refine names_same fun s => ?_
  constructor
  · rintro ⟨r, hr, h⟩
    obtain ⟨q, hq, rfl⟩ := (turn_mem _ _ _).1 hr
    exact ⟨q, hq, h.imp id (fun ⟨x, hx, hs⟩ => ⟨x, List.mem_reverse.1 hx, hs⟩)⟩
  · rintro ⟨q, hq, h⟩
    exact ⟨revR q, (turn_mem _ _ _).2 ⟨q, hq, rfl⟩, h.imp id (fun ⟨x, hx, hs⟩ => ⟨x, List.mem_reverse.2 hx, hs⟩)⟩
theorem needs_turn (ns : List ByteArray) (rs : List S39) (b : Int) : needs ns (turnR rs b) = needs ns rs := by
  refine needs_same fun z => ?_
  rw [needs_mem, needs_mem]
  constructor
  · rintro ⟨r, hr, x, hx, s, hs, rfl⟩
    obtain ⟨q, hq, rfl⟩ := (turn_mem _ _ _).1 hr
    exact ⟨q, hq, x, List.mem_reverse.1 hx, s, hs, rfl⟩
  · rintro ⟨q, hq, x, hx, s, hs, rfl⟩
    exact ⟨revR q, (turn_mem _ _ _).2 ⟨q, hq, rfl⟩, x, List.mem_reverse.2 hx, s, hs, rfl⟩
theorem tot_rev (b : List S46) : totB b.reverse = totB b := by unfold totB; rw [List.map_reverse, List.sum_reverse]
theorem totR_turn (rs : List S39) (b : Int) : totR (turnR rs b) = totR rs := by
  have h1 : ∀ l : List S39, totR (l.map revR) = totR l := by
    intro l
    unfold totR
    rw [List.map_map]
    congr 1
    exact List.map_congr_left (fun r _ => tot_rev r.f2)
  unfold turnR
  rw [h1]
  generalize b.toNat % rs.length = m
  have h2 : ∀ x y : List S39, totR (x ++ y) = totR x + totR y := fun x y => by unfold totR; rw [List.map_append, List.sum_append]
  unfold turnS
  rw [h2, Nat.add_comm, ← h2, List.take_append_drop]
theorem small_turn {rs : List S39} (h : Small rs) (b : Int) : Small (turnR rs b) where
  n := by rw [turnR_len]; exact h.n
  b := by
    intro r hr
    obtain ⟨q, hq, rfl⟩ := (turn_mem _ _ _).1 hr
    show q.f2.reverse.length ≤ 8
    rw [List.length_reverse]
    exact h.b q hq
  t := by rw [totR_turn]; exact h.t
theorem allU_rev (b : List S46) (q : S46 × ByteArray) : q ∈ allU b.reverse ↔ q ∈ allU b := by rw [allU_mem, allU_mem, List.mem_reverse]
theorem any_same {α : Type} {l l' : List α} {f : α → Bool} (h : ∀ z, z ∈ l ↔ z ∈ l') : l.any f = l'.any f := by
  rw [Bool.eq_iff_iff, List.any_eq_true, List.any_eq_true]
  exact ⟨fun ⟨z, hz, e⟩ => ⟨z, (h z).1 hz, e⟩, fun ⟨z, hz, e⟩ => ⟨z, (h z).2 hz, e⟩⟩
theorem bad_rev (ns : List ByteArray) (of : List Int) (r : S39) : badR ns of (revR r) = badR ns of r ∧ cycR ns of (revR r) = cycR ns of r := by
  constructor
  · exact any_same (allU_rev r.f2)
  · unfold cycR
    have e : (revR r).f2.any isLet = r.f2.any isLet := any_same (fun z => List.mem_reverse)
    rw [e]
    exact any_same (allU_rev r.f2)
theorem any_turn (rs : List S39) (b : Int) (f : S39 → Bool) (hf : ∀ r, f (revR r) = f r) : (turnR rs b).any f = rs.any f := by
  rw [Bool.eq_iff_iff, List.any_eq_true, List.any_eq_true]
  constructor
  · rintro ⟨r, hr, e⟩
    obtain ⟨q, hq, rfl⟩ := (turn_mem _ _ _).1 hr
    exact ⟨q, hq, by rw [← hf]; exact e⟩
  · rintro ⟨q, hq, e⟩
    exact ⟨revR q, (turn_mem _ _ _).2 ⟨q, hq, rfl⟩, by rw [hf]; exact e⟩
theorem StrataOrder (rs : List S39) (a : ByteArray) (l2 : List S43) (b : Int) (hr : ∀ r ∈ rs, G39 r) (ha : a.size ≤ 9223372036854775807) (hb8 : (Lit.int .u8 b).wf = true) : ∃ k, antecedentlaw13_StrataOrder.f k rs a l2 b = some true := by
  have hb0 : 0 ≤ b ∧ b ≤ 255 := by
    simp only [Lit.wf, IntKind.min, IntKind.max, IntKind.signed, IntKind.bits] at hb8
    simp at hb8
    omega
  obtain ⟨c, hb, hS⟩ := few_ev rs a l2
  obtain ⟨K1, p1⟩ := awake_ev
  obtain ⟨K2, p2⟩ := hb
  cases c with
  | false =>
    refine ⟨K1 + K2, ?_⟩
    have e1 := p1 (K1 + K2) (by omega)
    have e2 := p2 (K1 + K2) (by omega)
    dsimp only at e1 e2
    unfold antecedentlaw13_StrataOrder.f
    rw [e1, Option.bind_some, if_pos rfl, e2, Option.bind_some, if_neg (by simp)]
  | true =>
    have h := hS rfl
    have hsz := names_size a rs ha hr
    obtain ⟨of, l, e, ⟨K3, p3⟩, T⟩ := Strata_ev a rs l2 h hsz
    obtain ⟨of', l', e', ⟨K4, p4⟩, T'⟩ := Strata_ev a (turnR rs b) l2 (small_turn h b) (by rw [names_turn]; exact hsz)
    have hok' := T'.ok
    rw [names_turn, needs_turn] at hok'
    obtain rfl := ok_unique T.ok hok'
    have hres := T'.res
    rw [names_turn, any_turn rs b _ (fun r => (bad_rev _ of r).1), any_turn rs b _ (fun r => (bad_rev _ of r).2), ← T.res] at hres
    injection hres with hl' he'
    have hsame : Ev (fun k => antecedentref13_Same.f k l l) true := by
      rcases T.cases with ⟨_, h2⟩ | ⟨_, h2, _⟩
      · rw [h2]; exact same_ev [] (by simp) (by simp)
      · rw [h2]; exact lists_same a rs h of T.ok.1
    obtain ⟨K5, p5⟩ := hsame
    refine ⟨K1 + K2 + K3 + K4 + K5, ?_⟩
    have e1 := p1 (K1 + K2 + K3 + K4 + K5) (by omega)
    have e2 := p2 (K1 + K2 + K3 + K4 + K5) (by omega)
    have e3 := p3 (K1 + K2 + K3 + K4 + K5) (by omega)
    have e4 := p4 (K1 + K2 + K3 + K4 + K5) (by omega)
    have e5 := p5 (K1 + K2 + K3 + K4 + K5) (by omega)
    dsimp only at e1 e2 e3 e4 e5
    unfold antecedentlaw13_StrataOrder.f
    rw [e1, Option.bind_some, if_pos rfl, e2, Option.bind_some, if_pos rfl, if_pos ⟨hb0.1, hb0.2, by have := h.n; omega, fun r hr => by have := h.b r hr; omega⟩, e3, Option.bind_some, e4, Option.bind_some]
    dsimp only
    rw [if_pos he'.symm, hl']
    exact e5
end Go.Proofs.Ytfkilcegdajdcaa.Pure
