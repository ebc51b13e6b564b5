
/- What the laws share: awake, the sizes of names, components told apart from the way they were made, and the reference's comparison of lists with themselves. -/
import Derived.Test.YtfkilcegdajdcaaGAwake
import Derived.Test.YtfkilcegdajdcaaPZx5
import Derived.Test.YtfkilcegdajdcaaCoreS
import Derived.Test.YtfkilcegdajdcaaCoreP
namespace Go.Proofs.Ytfkilcegdajdcaa.Core
open Go.RowKit Go.Proofs.Ytfkilcegdajdcaa.PZ Go.Proofs.YtfkilcegdajdcaaW.PrintWords Go.Proofs.YtfkilcegdajdcaaW.PrintLast Go.Proofs.YtfkilcegdajdcaaW.PrintMore
set_option linter.unusedVariables false
theorem awake_ev : Ev (fun k => antecedentlaw13_awake.f k) true := ⟨60, fun k hk => by show antecedentlaw13_awake.f k = some true; unfold antecedentlaw13_awake.f; rw [if_pos hk]⟩
def G46 (x : S46) : Prop := x.f1.f0.size ≤ 9223372036854775807 ∧ ∀ q ∈ x.f6, q.f1.size ≤ 9223372036854775807
def G39 (r : S39) : Prop := r.f0.f0.size ≤ 9223372036854775807 ∧ ∀ x ∈ r.f2, G46 x
theorem names_size (a : ByteArray) (rs : List S39) (ha : a.size ≤ 9223372036854775807) (hr : ∀ r ∈ rs, G39 r) : ∀ s ∈ names a rs, s.size ≤ 9223372036854775807 := by
  intro s hs
  rcases (names_mem a rs s).1 hs with rfl | ⟨r, hm, rfl | ⟨x, hx, hu⟩⟩
  · exact ha
  · exact (hr r hm).1
  · have hu : s ∈ raws x := (Ord.nsort_mem Ord.linS _ _).1 hu
    obtain ⟨g1, g2⟩ := (hr r hm).2 x hx
    unfold raws at hu
    split at hu
    · rw [List.mem_singleton] at hu; subst hu; exact g1
    · split at hu
      · obtain ⟨q, hq, rfl⟩ := List.mem_map.1 hu
        exact g2 q (List.mem_filter.1 hq).1
      · cases hu
theorem ok_unique {N : Nat} {E : Nat → Nat → Prop} {f g : List Int} (hf : Ok N E f) (hg : Ok N E g) : f = g := by
  apply List.ext_getElem
  · rw [hf.1, hg.1]
  · intro i h1 h2
    have := hf.2.unique hg.2 i (by rw [← hf.1]; exact h1)
    simp only [rd_at f i h1, rd_at g i h2] at this
    exact this
theorem names_same {a : ByteArray} {rs rs' : List S39} (h : ∀ s, (∃ r ∈ rs, s = r.f0.f0 ∨ ∃ x ∈ r.f2, s ∈ uses x) ↔ ∃ r ∈ rs', s = r.f0.f0 ∨ ∃ x ∈ r.f2, s ∈ uses x) : names a rs = names a rs' :=
  Ord.up_eq Ord.linS _ _ (names_up a rs) (names_up a rs') (fun s => by rw [names_mem, names_mem, h s])
theorem needs_same {ns : List ByteArray} {rs rs' : List S39} (h : ∀ z, z ∈ needs ns rs ↔ z ∈ needs ns rs') : needs ns rs = needs ns rs' :=
  Ord.up_eq linP _ _ (Ord.nsort_up linP _) (Ord.nsort_up linP _) h
theorem same1_ev (l : List ByteArray) (hl : l.length ≤ 1001) : Ev (fun k => antecedentref11_Same.f k l l) true := by
  have key : ∀ d n : Nat, n ≤ l.length → l.length - n = d → Ev (fun k => antecedentref11_Same.l0 k l l l.length n) true := by
    intro d
    induction d with
    | zero =>
      intro n hn hd
      refine Ev.step (f := fun _ => some true) (fun k => ?_) (Ev.now _)
      simp only [antecedentref11_Same.l0]
      rw [if_neg (by omega)]
    | succ d ih =>
      intro n hn hd
      refine Ev.step (fun k => ?_) (ih (n + 1) (by omega) (by omega))
      simp only [antecedentref11_Same.l0]
      rw [if_pos (by omega), if_pos (by omega), if_pos (by omega), if_pos (by omega), if_pos trivial, up1 n (by omega)]
  unfold antecedentref11_Same.f
  simp only [if_true]
  exact key _ 0 (by omega) rfl
theorem same_ev (L : List (List ByteArray)) (hL : L.length ≤ 1001) (hl : ∀ l ∈ L, l.length ≤ 1001) : Ev (fun k => antecedentref13_Same.f k L L) true := by
  have key : ∀ d n : Nat, n ≤ L.length → L.length - n = d → Ev (fun k => antecedentref13_Same.l0 k L L L.length n) true := by
    intro d
    induction d with
    | zero =>
      intro n hn hd
      refine Ev.step (f := fun _ => some true) (fun k => ?_) (Ev.now _)
      simp only [antecedentref13_Same.l0]
      rw [if_neg (by omega)]
    | succ d ih =>
      intro n hn hd
      have hlt : n < L.length := by omega
      refine Ev.step (f := fun k => (antecedentref11_Same.f k L[n] L[n]).bind fun t => if t = true then antecedentref13_Same.l0 k L L L.length (n + 1 : Nat) else some false) (fun k => ?_) ?_
      · simp only [antecedentref13_Same.l0]
        rw [if_pos (by omega), if_pos (by omega), if_pos (by omega), if_pos (by omega), rdL1_at L n hlt, up1 n (by omega)]
      · refine Ev.bind (f := fun k t => if t = true then antecedentref13_Same.l0 k L L L.length (n + 1 : Nat) else some false) (same1_ev L[n] (hl _ (List.getElem_mem hlt))) ?_
        simp only [if_true]
        exact ih (n + 1) (by omega) (by omega)
  unfold antecedentref13_Same.f
  simp only [if_true]
  exact key _ 0 (by omega) rfl
theorem lists_same (a : ByteArray) (rs : List S39) (h : Small rs) (of : List Int) (hlen : of.length = (names a rs).length) : Ev (fun k => antecedentref13_Same.f k (lists (names a rs) of) (lists (names a rs) of)) true := by
  have hn := names_len h a
  refine same_ev _ (by unfold lists; rw [List.length_map, rows_len]; exact gr_le of of.length) (fun l hl => ?_)
  obtain ⟨l', hl', rfl⟩ := List.mem_map.1 hl
  obtain ⟨k, hk, rfl⟩ := List.mem_map.1 hl'
  have := ix_len of k of.length
  simp only [listed, List.length_map]
  omega
end Go.Proofs.Ytfkilcegdajdcaa.Core
