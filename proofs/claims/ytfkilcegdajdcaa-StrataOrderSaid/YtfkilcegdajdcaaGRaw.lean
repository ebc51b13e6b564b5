/- Rows of rules and of literals that a law makes: the cells are told as they are, for they lead to what came in; and how such a row reads as rules. -/
import Derived.Test.YtfkilcegdajdcaaGStore
import Derived.Test.YtfkilcegdajdcaaPZx0
namespace Go.Proofs.Ytfkilcegdajdcaa.PZ
open Go.RowKit Go.Proofs.YtfkilcegdajdcaaW.PrintWords Go.Proofs.YtfkilcegdajdcaaW.PrintLast Go.Proofs.YtfkilcegdajdcaaW.PrintMore
set_option linter.unusedVariables false
def raw (n : Nat) (x cs : List Value) : Prop := cs = x ∧ x.length = n ∧ ∀ u ∈ x, u.oneCell' = true
def kraw (n : Nat) : Kd (List Value) where
  sz := n
  E := []
  K := fun _ x cs => raw n x cs
  M := fun _ _ _ x cs => raw n x cs
  K_len := by rintro w x cs ⟨rfl, h, _⟩; exact h
  K_one := by rintro w x cs ⟨rfl, _, h⟩; exact h
  K_below := fun _ h => h
  K_of_M := fun h => h
  M_mono := fun _ h => h
  M_bound := fun h => h
  M_move := fun _ h => h
  M_lower := fun _ h => h
abbrev kL : Kd (List Value) := kraw 17
abbrev kR : Kd (List Value × List (List Value)) := Kd.pair (kraw 3) (Kd.slice 46 kL)
def Al {α β : Type} (R : α → β → Prop) (xs : List α) (ys : List β) : Prop := xs.length = ys.length ∧ ∀ (i : Nat) x y, xs[i]? = some x → ys[i]? = some y → R x y
theorem Al.nil {α β : Type} {R : α → β → Prop} : Al R [] [] := ⟨rfl, fun i x y h => by simp at h⟩
theorem Al.snoc {α β : Type} {R : α → β → Prop} {xs : List α} {ys : List β} (h : Al R xs ys) {x : α} {y : β} (hr : R x y) : Al R (xs ++ [x]) (ys ++ [y]) := by
  obtain ⟨hl, hi⟩ := h
  refine ⟨by simp [hl], fun i a b ha hb => ?_⟩
  by_cases hlt : i < xs.length
  · rw [List.getElem?_append_left hlt] at ha
    rw [List.getElem?_append_left (by omega)] at hb
    exact hi i a b ha hb
  · rw [List.getElem?_append_right (by omega)] at ha
    rw [List.getElem?_append_right (by omega)] at hb
    have h1 := (List.getElem?_eq_some_iff.1 ha).1
    simp at h1
    have e : i - xs.length = 0 := by omega
    rw [e] at ha
    rw [show i - ys.length = 0 by omega] at hb
    simp at ha hb
    subst ha; subst hb
    exact hr
theorem C_al {α β : Type} {d : Kd α} {d' : Kd β} {W : World} {A : Option Addr} {xs : List α} {ys : List β} (hsz : d.sz = d'.sz) (h : d.C W A ys.length xs) (ha : Al (fun y x => ∀ c, d.K W x c → d'.K W y c) ys xs) : d'.C W A ys.length ys := by
  obtain ⟨h1, h2, h3⟩ := h
  refine ⟨rfl, h2, fun hn => ?_⟩
  obtain ⟨ad, e, hc⟩ := h3 hn
  refine ⟨ad, e, fun j p hj => ?_⟩
  have hjl := (List.getElem?_eq_some_iff.1 hj).1
  have hx : xs[j]? = some xs[j] := List.getElem?_eq_getElem (by omega)
  obtain ⟨c, hl, hk, hcell⟩ := hc j _ hx
  exact ⟨c, by rw [← hsz]; exact hl, ha.2 j p _ hj hx c hk, by rw [← hsz]; exact hcell⟩
theorem C_lits {w W : World} {A : Option Addr} {xs : List S46} {ls : List (List Value)} (hb : Below w.heap.size w W) (h : kL.C W A ls.length ls) (ha : Al (fun x c => k46.K w x c) xs ls) : k46.C W A xs.length xs := by
  refine C_al (d := kL) rfl (by rw [ha.1]; exact h) ⟨ha.1, fun i x c hx hc c' hk => ?_⟩
  obtain ⟨rfl, _, _⟩ := hk
  exact k46.K_below hb (ha.2 i x _ hx hc)
def Rul (w : World) (r : S39) (row : List Value × List (List Value)) : Prop :=
  (∃ A c, row.1 = [.string r.f0.f0, .slice A r.f0.f1.length c, .int .i64 r.f1] ∧ r.f0.f1.length ≤ c ∧ k43.C w A r.f0.f1.length r.f0.f1) ∧ Al (fun x c => k46.K w x c) r.f2 row.2
theorem C_rules {w W : World} {A : Option Addr} {rs : List S39} {rows : List (List Value × List (List Value))} (hb : Below w.heap.size w W) (h : kR.C W A rows.length rows) (ha : Al (Rul w) rs rows) : k39.C W A rs.length rs := by
  refine C_al (d := kR) rfl (by rw [ha.1]; exact h) ⟨ha.1, fun i r row hr hrow c hk => ?_⟩
  obtain ⟨⟨A1, c1, e1, l1, g1⟩, hal⟩ := ha.2 i r row hr hrow
  obtain ⟨d1, d2, rfl, ⟨rfl, _, _⟩, A3, c3, rfl, l3, g3⟩ := hk
  rw [e1]
  have hl := hal.1
  rw [← hl]
  exact k39_mk W r l1 (Kd.C_below g1 hb) (by omega) (C_lits hb g3 hal)
end Go.Proofs.Ytfkilcegdajdcaa.PZ

namespace Go.Proofs.Ytfkilcegdajdcaa.PZ
open Go.RowKit Go.Proofs.YtfkilcegdajdcaaW.PrintWords Go.Proofs.YtfkilcegdajdcaaW.PrintLast Go.Proofs.YtfkilcegdajdcaaW.PrintMore
def revR (r : S39) : S39 := ⟨r.f0, r.f1, r.f2.reverse⟩
def turnS (rs : List S39) (m : Nat) : List S39 := rs.drop m ++ rs.take m
def turnR (rs : List S39) (by_ : Int) : List S39 := (turnS rs (by_.toNat % rs.length)).map revR
theorem turnS_len (rs : List S39) (m : Nat) (h : m ≤ rs.length) : (turnS rs m).length = rs.length := by unfold turnS; rw [List.length_append, List.length_drop, List.length_take]; omega
theorem turnS_at (rs : List S39) (b i : Nat) (hi : i < rs.length) : (turnS rs (b % rs.length))[i]? = rs[(i + b) % rs.length]? := by
  have hm := Nat.mod_lt b (show 0 < rs.length by omega)
  have e : (i + b) % rs.length = (i + b % rs.length) % rs.length := by rw [Nat.add_mod, Nat.mod_eq_of_lt hi]
  rw [e]
  generalize b % rs.length = m at hm
  clear e
  unfold turnS
  by_cases h : i < rs.length - m
  · rw [List.getElem?_append_left (by rw [List.length_drop]; exact h), List.getElem?_drop, Nat.mod_eq_of_lt (a := i + m) (by omega), Nat.add_comm]
  · have e : (i + m) % rs.length = i - (rs.length - m) := by
      rw [Nat.mod_eq_sub_mod (by omega), Nat.mod_eq_of_lt (by omega)]
      omega
    rw [List.getElem?_append_right (by rw [List.length_drop]; omega), List.length_drop, List.getElem?_take_of_lt (by omega), e]
theorem turnS_mem (rs : List S39) (m : Nat) (r : S39) : r ∈ turnS rs m ↔ r ∈ rs := by
  unfold turnS
  rw [List.mem_append, or_comm, ← List.mem_append, List.take_append_drop]
end Go.Proofs.Ytfkilcegdajdcaa.PZ
