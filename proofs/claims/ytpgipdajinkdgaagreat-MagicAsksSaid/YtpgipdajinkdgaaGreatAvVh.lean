/- A part of the proof of MagicAsks: functions of the program, run by the evaluator. -/

/- The library's sorting on a row that has been built up; a row of which the head is told. -/
import Derived.Test.YtpgipdajinkdgaaGreatAvZ
import Derived.Test.YtpgipdajinkdgaaGreatAvVf
namespace Go.Proofs.YtpgipdajinkdgaaGreatA
open Go Go.RowKit
set_option linter.all false
set_option linter.unusedSectionVars false
set_option linter.constructorNameAsVariable false
set_option linter.unusedVariables false
section
variable {H : List Blk}
theorem cells_sstr (l : List ByteArray) : (l.map fun s => [sstr s]).flatten = l.map sstr := by
  induction l with
  | nil => rfl
  | cons s l ih => simp only [List.map_cons, List.flatten_cons, ih]; rfl
theorem ownStrs_at {b ver : Nat} {e : TypeId} {l : List ByteArray} (hk : H[b]? = some ⟨e, 1, ver, true, l.map sstr, .cells⟩) (hl : l.length < 4611686018427387904) : ownStrs H (.own b 0 l.length 1 ver) = some (b, 0, l.length, ver, ⟨e, 1, ver, true, l.map sstr, .cells⟩, l) := by
  simp only [ownStrs, blkAt_some' hk rfl rfl, List.drop_zero]
  rw [List.take_of_length_le (by simp), strsOf_map]
  simp [hl]
theorem sortPrim_own {b ver : Nat} {e : TypeId} {l : List ByteArray} (hk : H[b]? = some ⟨e, 1, ver, true, l.map sstr, .cells⟩) (hl : l.length < 4611686018427387904) :
    sortPrim [.own b 0 l.length 1 ver] H = some (.tup [], H.set b ⟨e, 1, ver, true, (Ord.sortS l).map sstr, .cells⟩) := by
  unfold sortPrim
  simp only [ownStrs_at hk hl, putBlk, List.take_zero, List.nil_append, Nat.zero_add]
  rw [List.drop_eq_nil_of_le (by simp), List.append_nil]
theorem compactPrim_own {b ver : Nat} {e : TypeId} {l : List ByteArray} (hk : H[b]? = some ⟨e, 1, ver, true, l.map sstr, .cells⟩) (hl : l.length < 4611686018427387904) :
    compactPrim [.own b 0 l.length 1 ver] H = some (.own b 0 (Ord.compS l).length 1 ver, H.set b ⟨e, 1, ver, true, (Ord.compS l).map sstr ++ (List.replicate (l.length - (Ord.compS l).length) ⟨#[]⟩).map sstr, .cells⟩) := by
  unfold compactPrim
  simp only [ownStrs_at hk hl, putBlk, List.take_zero, List.nil_append, Nat.zero_add, List.map_append]
  rw [List.drop_eq_nil_of_le (by simp), List.append_nil]
def HeadAt (sz : Nat) (H : List Blk) (v : AV) (rows : List (List AV)) : Prop :=
  (rows = [] ∧ v = .sc (.slice none 0 0)) ∨ ∃ b ver e rest, v = .own b 0 rows.length sz ver ∧ H[b]? = some ⟨e, sz, ver, true, rows.flatten ++ rest, .cells⟩
theorem rb_head {sz k : Nat} {v : AV} {rows : List (List AV)} (h : HeadAt sz H v rows) (hr : ∀ r ∈ rows, r.length = sz) (hs : ∀ r ∈ rows, ∀ x ∈ r, Stays x) : rb H (k + 2) v = some (mkL sz rows) := by
  rcases h with ⟨rfl, rfl⟩ | ⟨b, ver, e, rest, rfl, hk⟩
  · rfl
  · have e1 : rb H (k + 2) (.own b 0 rows.length sz ver) = (match blkR H b ver with
      | some blk => match rdCells blk.cells (0 * sz) (rows.length * sz) with
        | some cs => (amap (rb H (k + 1)) cs).map fun l => mkL sz (chunks sz rows.length l)
        | none => none
      | none => none) := rfl
    rw [e1, blkR_some' hk rfl rfl]
    simp only [rdCells, Nat.zero_mul, Nat.zero_add, List.length_append, flat_len' hr, Nat.le_add_right, if_true, List.drop_zero]
    rw [← flat_len' hr, List.take_left' rfl, amap_stays (fun x hx => by
      obtain ⟨r, hr', hx⟩ := List.mem_flatten.1 hx
      exact hs r hr' x hx)]
    simp only [Option.map_some, chunks_flat' hr]
theorem toVs_sc : ∀ (cs : List AV), (∀ x ∈ cs, ∃ v, x = .sc v) → (toVs cs).isSome = true
  | [], _ => rfl
  | x :: cs, hx => by
    obtain ⟨v, rfl⟩ := hx x (by simp)
    have := toVs_sc cs (fun y hy => hx y (by simp [hy]))
    simp only [toVs, Option.isSome_map, this]
theorem fresh_head {sz : Nat} {v : AV} {rows : List (List AV)} (h : HeadAt sz H v rows) (hr : ∀ r ∈ rows, r.length = sz) (hs : ∀ r ∈ rows, ∀ x ∈ r, ∃ u, x = .sc u) : freshR H v = true := by
  rcases h with ⟨rfl, rfl⟩ | ⟨b, ver, e, rest, rfl, hk⟩
  · rfl
  · unfold freshR
    rw [Bool.or_eq_true]
    left
    simp only [freshR0]
    rw [blkAt_some' hk rfl rfl]
    simp only [rdCells, Nat.zero_mul, Nat.zero_add, List.length_append, flat_len' hr, Nat.le_add_right, if_true, List.drop_zero]
    rw [← flat_len' hr, List.take_left' rfl]
    exact toVs_sc _ (fun x hx => by
      obtain ⟨r, hr', hx⟩ := List.mem_flatten.1 hx
      exact hs r hr' x hx)
end
theorem val_head {P : Program} {C : Cfg} {k : Nat} {f : FuncId} {xs : List AV} {sz : Nat} {v : AV} {rows : List (List AV)} {H1 : List Blk} (h : arun P C k f xs [] = some (v, H1)) (ho : HeadAt sz H1 v rows) (hr : ∀ r ∈ rows, r.length = sz) (hs : ∀ r ∈ rows, ∀ x ∈ r, Stays x ∧ ∃ u, x = .sc u) : val P C k f xs = some (mkL sz rows) :=
  val_of h (fresh_head ho hr fun r hr x hx => (hs r hr x hx).2) (rb_head (k := 38) ho hr fun r hr x hx => (hs r hr x hx).1)
end Go.Proofs.YtpgipdajinkdgaaGreatA
