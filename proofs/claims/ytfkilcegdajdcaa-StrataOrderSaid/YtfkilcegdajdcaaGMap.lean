
/- strata.Strata's map: what it answers behind the first n names. -/
import Derived.Test.YtfkilcegdajdcaaPZx0
import Derived.Test.YtfkilcegdajdcaaGOrd
import Derived.Maps.Own
import Derived.Maps.OwnOps
import Derived.Maps.OwnSet
import Derived.Maps.Views
import Derived.StringKeys
namespace Go.Proofs.Ytfkilcegdajdcaa.PZ
open Go.RowKit Go.Maps Go.WideMaps Go.Proofs.YtfkilcegdajdcaaW.PrintWords Go.Proofs.YtfkilcegdajdcaaW.PrintLast Go.Proofs.YtfkilcegdajdcaaW.PrintMore
set_option linter.unusedVariables false
theorem keyed9 : Keyed Try.prog 9 := string_keyed Try.underlying9
def wh (names : List ByteArray) (of : List Int) : Nat → ByteArray → Int
  | 0, _ => 0
  | n + 1, s => if rdOf ByteArray.empty names (n : Int) = s then rd of (n : Int) else wh names of n s
theorem keyOf_isKey (l : List UInt8) : WideAt.IsKeyLit (.string l) := by
  first | trivial | exact .inl ⟨_, rfl⟩ | exact .inr ⟨_, rfl⟩ | decide | simp [WideAt.IsKeyLit]
def MapAt (names : List ByteArray) (of : List Int) (b n : Nat) (W : World) : Prop :=
  ∃ D : DataW Unit, W.ownsMap Try.prog 9 (plainElem Try.prog 3) b n D ∧ IsMap D ∧ ∀ s : ByteArray, s.size ≤ maxLen → D.atKey (.string s.data.toList) (.lit (.int .i64 0)) = .lit (.int .i64 (wh names of n s))
section
variable {names : List ByteArray} {of : List Int} {b n : Nat} {W W' : World}
theorem MapAt.same (h : MapAt names of b n W) (hb : W'.heap[b]? = W.heap[b]?) : MapAt names of b n W' := by
  obtain ⟨D, ⟨es, clock, h1, F, hs, hD⟩, hm, ha⟩ := h
  exact ⟨D, ⟨es, clock, hb.trans h1, F, hs, hD⟩, hm, ha⟩
theorem MapAt.lt (h : MapAt names of b n W) : b < W.heap.size := by
  obtain ⟨D, h, _⟩ := h
  exact h.lt
theorem MapAt.obj (h : MapAt names of b n W) : ∃ o, W.heap[b]? = some o ∧ ∀ W' : World, W'.heap[b]? = some o → MapAt names of b n W' := by
  have hl := h.lt
  refine ⟨W.heap[b], Array.getElem?_eq_getElem hl, fun W' hb => h.same (hb.trans (Array.getElem?_eq_getElem hl).symm)⟩
theorem MapAt.look (h : MapAt names of b n W) {s : ByteArray} (hs : s.size ≤ maxLen) : (Instr.lookup 58 (.map (some b)) (.string s) false).run Try.prog W = .ok (.int .i64 (wh names of n s)) W := by
  obtain ⟨D, ho, hm, ha⟩ := h
  obtain ⟨c, hrun, hat, _⟩ := ho.lookup_int keyed9 Try.underlying58 Try.underlying3 (by kernel_rfl) (keyOf_string_mk Try.underlying9 hs)
  rw [ha s hs] at hat
  have h1 := (Lit.int.inj (DataW.lit.inj hat)).2
  rw [hrun, ← h1]
theorem MapAt.new (W : World) : MapAt names of W.heap.size 0 (W.alloc (.map #[] 0)) :=
  ⟨.map [], World.ownsMap_made _ _ _ _, ⟨[], rfl⟩, fun _ _ => rfl⟩
theorem MapAt.up (h : MapAt names of b n W) (hn : n < maxLen) (hs : (rdOf ByteArray.empty names (n : Int)).size ≤ maxLen) (hc : (Lit.int .i64 (rd of (n : Int))).wf = true) :
    ∃ W', (Instr.mapUpdate 58 (.map (some b)) (.string (rdOf ByteArray.empty names (n : Int))) (.int .i64 (rd of (n : Int)))).run Try.prog W = .ok () W' ∧ MapAt names of b (n + 1) W' ∧ W.grownBy W' (some b) := by
  obtain ⟨D, ho, hm, ha⟩ := h
  obtain ⟨W', hrun, ho', hg⟩ := ho.update keyed9 Try.underlying58 hn (keyOf_string_mk Try.underlying9 hs) (plainElem_int Try.underlying3 hc)
  refine ⟨W', hrun, ⟨_, ho', ?_, fun s hsz => ?_⟩, hg⟩
  · obtain ⟨es, rfl⟩ := hm
    exact ⟨_, rfl⟩
  · unfold wh
    by_cases e : rdOf ByteArray.empty names (n : Int) = s
    · rw [if_pos e, ← e]
      exact atKey_put_same hm (keyOf_isKey _) _ _
    · rw [if_neg e, atKey_put_other (fun h => e ?_), ha s hsz]
      exact Ord.bytes_ext (Lit.string.inj h).symm
end
end Go.Proofs.Ytfkilcegdajdcaa.PZ
