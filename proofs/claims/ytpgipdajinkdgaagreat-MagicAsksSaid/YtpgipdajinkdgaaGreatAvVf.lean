/- Strings: sorted, compacted; what the library's contracts of slices.Sort and slices.Compact say to the evaluator. -/
import Derived.Lib.SlicesCompact
import Derived.Sort.Grow
import Derived.Sort.EncStr
import Derived.Test.YtpgipdajinkdgaaGreatAvL
import Derived.Test.YtpgipdajinkdgaaGreatAvI
import Derived.Shelf.GgSortFunc.RowK
import Derived.Deep.Draws
import Derived.Test.YtpgipdajinkdgaaGreatAvS
namespace Go.Proofs.YtpgipdajinkdgaaGreatA.Ord
open Go.Sort
set_option linter.all false
set_option linter.unusedSectionVars false
set_option linter.constructorNameAsVariable false
set_option linter.unusedVariables false
def ins {α : Type} (lt : α → α → Bool) (x : α) : List α → List α
  | [] => [x]
  | y :: t => if lt x y = true then x :: y :: t else if lt y x = true then y :: ins lt x t else y :: t
def nsort {α : Type} (lt : α → α → Bool) (l : List α) : List α := l.foldr (ins lt) []
structure Lin {α : Type} (lt : α → α → Bool) : Prop where
  irr : ∀ x, lt x x = false
  tr : ∀ x y z, lt x y = true → lt y z = true → lt x z = true
  tot : ∀ x y, lt x y = false → lt y x = false → x = y
abbrev Up {α : Type} (lt : α → α → Bool) (l : List α) : Prop := l.Pairwise (fun x y => lt x y = true)
section
variable {α : Type} {lt : α → α → Bool} (L : Lin lt)
include L
theorem ins_mem (x : α) : ∀ (l : List α) (z : α), z ∈ ins lt x l ↔ z = x ∨ z ∈ l
  | [], z => by simp [ins]
  | y :: t, z => by
    unfold ins
    split
    · simp
    · split
      · rw [List.mem_cons, ins_mem x t z, List.mem_cons]
        constructor
        · rintro (h | h | h)
          · exact .inr (.inl h)
          · exact .inl h
          · exact .inr (.inr h)
        · rintro (h | h | h)
          · exact .inr (.inl h)
          · exact .inl h
          · exact .inr (.inr h)
      · rename_i h1 h2
        have e : x = y := L.tot x y (by simpa using h1) (by simpa using h2)
        subst e
        rw [List.mem_cons]
        constructor
        · exact .inr
        · rintro (h | h)
          · exact .inl h
          · exact h
theorem ins_up (x : α) : ∀ (l : List α), Up lt l → Up lt (ins lt x l)
  | [], _ => by simp [ins]
  | y :: t, h => by
    have h' := List.pairwise_cons.1 h
    unfold ins
    split
    · rename_i h1
      refine List.pairwise_cons.2 ⟨fun z hz => ?_, h⟩
      rcases List.mem_cons.1 hz with rfl | hz
      · exact h1
      · exact L.tr _ _ _ h1 (h'.1 z hz)
    · split
      · rename_i h1 h2
        refine List.pairwise_cons.2 ⟨fun z hz => ?_, ins_up x t h'.2⟩
        rcases (ins_mem L x t z).1 hz with rfl | hz
        · exact h2
        · exact h'.1 z hz
      · exact h
theorem nsort_mem (l : List α) (z : α) : z ∈ nsort lt l ↔ z ∈ l := by
  induction l with
  | nil => simp [nsort]
  | cons x l ih =>
    show z ∈ ins lt x (nsort lt l) ↔ _
    rw [ins_mem L, ih, List.mem_cons]
theorem nsort_up (l : List α) : Up lt (nsort lt l) := by
  induction l with
  | nil => exact List.Pairwise.nil
  | cons x l ih => exact ins_up L x _ ih
theorem up_eq : ∀ (a b : List α), Up lt a → Up lt b → (∀ z, z ∈ a ↔ z ∈ b) → a = b
  | [], [], _, _, _ => rfl
  | [], y :: t, _, _, h => by have := (h y).2 (by simp); simp at this
  | x :: s, [], _, _, h => by have := (h x).1 (by simp); simp at this
  | x :: s, y :: t, ha, hb, h => by
    have ha' := List.pairwise_cons.1 ha
    have hb' := List.pairwise_cons.1 hb
    have e : x = y := by
      rcases List.mem_cons.1 ((h x).1 (by simp)) with e | e
      · exact e
      · rcases List.mem_cons.1 ((h y).2 (by simp)) with e2 | e2
        · exact e2.symm
        · have h1 := hb'.1 x e
          have h2 := ha'.1 y e2
          have := L.tr _ _ _ h1 h2
          rw [L.irr] at this
          cases this
    subst e
    congr 1
    refine up_eq s t ha'.2 hb'.2 fun z => ⟨fun hz => ?_, fun hz => ?_⟩
    · rcases List.mem_cons.1 ((h z).1 (List.mem_cons_of_mem _ hz)) with e | e
      · subst e
        have := ha'.1 z hz
        rw [L.irr] at this
        cases this
      · exact e
    · rcases List.mem_cons.1 ((h z).2 (List.mem_cons_of_mem _ hz)) with e | e
      · subst e
        have := hb'.1 z hz
        rw [L.irr] at this
        cases this
      · exact e
omit L in
theorem nsort_len_le (l : List α) : (nsort lt l).length ≤ l.length := by
  induction l with
  | nil => exact Nat.le_refl _
  | cons x l ih =>
    show (ins lt x (nsort lt l)).length ≤ _
    have : ∀ (m : List α), (ins lt x m).length ≤ m.length + 1 := by
      intro m
      induction m with
      | nil => simp [ins]
      | cons y t iht =>
        unfold ins
        split
        · simp
        · split
          · simp only [List.length_cons]; omega
          · simp
    have := this (nsort lt l)
    simp only [List.length_cons]
    omega
theorem compact_up [Inhabited α] [DecidableEq α] (d : Array α) (hs : ∀ i j, i < j → j < d.size → lt d[j]! d[i]! = false) : ∀ m, m ≤ d.size → Up lt (Lib.compactUpTo d m) ∧ (∀ z ∈ Lib.compactUpTo d m, ∃ i, i < m ∧ z = d[i]!) ∧ (∀ i, i < m → d[i]! ∈ Lib.compactUpTo d m)
  | 0, _ => ⟨by simp [Lib.compactUpTo], by simp [Lib.compactUpTo], fun i hi => absurd hi (Nat.not_lt_zero _)⟩
  | m + 1, hm => by
    obtain ⟨h1, h2, h3⟩ := compact_up d hs m (by omega)
    rw [Lib.compactUpTo_succ]
    by_cases hk : Lib.keeps d m = true
    · rw [if_pos hk]
      refine ⟨List.pairwise_append.2 ⟨h1, by simp, ?_⟩, ?_, ?_⟩
      · intro x hx y hy
        obtain ⟨i, hi, rfl⟩ := h2 x hx
        obtain rfl := List.mem_singleton.1 hy
        have hm0 : d[m]! ≠ d[m - 1]! := by
          have := hk
          unfold Lib.keeps at this
          have := of_decide_eq_true this
          rcases this with h | h
          · omega
          · exact h
        have ha := hs i m hi (by omega)
        cases hb : lt d[i]! d[m]! with
        | true => rfl
        | false =>
          exfalso
          have e := L.tot _ _ hb ha
          by_cases hi1 : i = m - 1
          · subst hi1; exact hm0 e.symm
          · have hc := hs i (m - 1) (by omega) (by omega)
            have hd := hs (m - 1) m (by omega) (by omega)
            rw [e] at hc
            exact hm0 (L.tot _ _ hd hc)
      · intro z hz
        rcases List.mem_append.1 hz with hz | hz
        · obtain ⟨i, hi, e⟩ := h2 z hz
          exact ⟨i, by omega, e⟩
        · exact ⟨m, by omega, List.mem_singleton.1 hz⟩
      · intro i hi
        by_cases e : i = m
        · subst e; simp
        · exact List.mem_append_left _ (h3 i (by omega))
    · rw [if_neg hk, List.append_nil]
      refine ⟨h1, fun z hz => ?_, fun i hi => ?_⟩
      · obtain ⟨i, hi, e⟩ := h2 z hz
        exact ⟨i, by omega, e⟩
      · by_cases e : i = m
        · subst e
          have : ¬ (i = 0 ∨ d[i]! ≠ d[i - 1]!) := by
            intro h
            exact hk (by unfold Lib.keeps; exact decide_eq_true h)
          have h0 : i ≠ 0 := fun h => this (.inl h)
          have h1' : d[i]! = d[i - 1]! := Decidable.of_not_not fun h => this (.inr h)
          rw [h1']
          exact h3 (i - 1) (by omega)
        · exact h3 i (by omega)
theorem compact_sorted [Inhabited α] [DecidableEq α] (zs : List α) (hs : zs.Pairwise (fun x y => lt y x = false)) : Lib.compact zs = nsort lt zs := by
  have hp : ∀ i j, i < j → j < zs.toArray.size → lt zs.toArray[j]! zs.toArray[i]! = false := by
    intro i j hij hj
    have hj' : j < zs.length := by simpa using hj
    have := List.pairwise_iff_getElem.1 hs i j (by omega) hj' hij
    rw [getElem!_pos _ j (by simpa using hj'), getElem!_pos _ i (by simp; omega)]
    simpa using this
  obtain ⟨h1, h2, h3⟩ := compact_up L zs.toArray hp zs.length (by simp)
  refine up_eq L _ _ h1 (nsort_up L zs) fun z => ?_
  rw [nsort_mem L]
  constructor
  · intro hz
    obtain ⟨i, hi, rfl⟩ := h2 z hz
    rw [getElem!_pos _ i (by simpa using hi)]
    simp
  · intro hz
    obtain ⟨i, hi, rfl⟩ := List.getElem_of_mem hz
    have := h3 i hi
    rw [getElem!_pos _ i (by simpa using hi)] at this
    show _ ∈ Lib.compactUpTo _ _
    simpa using this
theorem nsort_congr {l m : List α} (h : ∀ z, z ∈ l ↔ z ∈ m) : nsort lt l = nsort lt m :=
  up_eq L _ _ (nsort_up L l) (nsort_up L m) fun z => by rw [nsort_mem L, nsort_mem L, h]
end
def ltL (a b : List UInt8) : Bool := decide (a < b)
theorem linL : Lin ltL where
  irr x := decide_eq_false (List.lt_irrefl x)
  tr x y z h1 h2 := decide_eq_true (List.lt_trans (of_decide_eq_true h1) (of_decide_eq_true h2))
  tot x y h1 h2 := List.le_antisymm (List.not_lt.1 (of_decide_eq_false h2)) (List.not_lt.1 (of_decide_eq_false h1))
def ltS (a b : ByteArray) : Bool := ltL a.data.toList b.data.toList
theorem bytes_ext {a b : ByteArray} (h : a.data.toList = b.data.toList) : a = b := by
  cases a; cases b
  congr 1
  exact Array.toList_inj.1 h
theorem linS : Lin ltS where
  irr x := linL.irr _
  tr x y z := linL.tr _ _ _
  tot x y h1 h2 := bytes_ext (linL.tot _ _ h1 h2)
def sorted (l : List ByteArray) : List ByteArray := nsort ltS l
def bs (l : List ByteArray) : List (List UInt8) := l.map fun b => b.data.toList
theorem bs_sorted (l : List ByteArray) : bs (sorted l) = nsort ltL (bs l) := by
  refine up_eq linL _ _ ?_ (nsort_up linL _) fun z => ?_
  · exact List.pairwise_map.2 (nsort_up linS l)
  · rw [nsort_mem linL]
    unfold bs
    simp only [List.mem_map]
    constructor
    · rintro ⟨b, hb, rfl⟩
      exact ⟨b, (nsort_mem linS l b).1 hb, rfl⟩
    · rintro ⟨b, hb, rfl⟩
      exact ⟨b, (nsort_mem linS l b).2 hb, rfl⟩
theorem sort_compact (l : List ByteArray) : Lib.compact ((bs l).mergeSort fun x y => decide (x ≤ y)) = bs (sorted l) := by
  rw [bs_sorted, compact_sorted linL]
  · exact nsort_congr linL fun z => by rw [List.mem_mergeSort]
  · have := List.pairwise_mergeSort (le := fun (x y : List UInt8) => decide (x ≤ y)) (fun a b c h1 h2 => decide_eq_true (List.le_trans (of_decide_eq_true h1) (of_decide_eq_true h2)))
      (fun a b => by
        rcases List.le_total a b with h | h
        · simp [h]
        · simp [h]) (bs l)
    exact this.imp fun h => decide_eq_false (List.not_lt.2 (of_decide_eq_true h))
def insD {α : Type} (lt : α → α → Bool) (x : α) : List α → List α
  | [] => [x]
  | y :: t => bif lt y x then y :: insD lt x t else x :: y :: t
def isort {α : Type} (lt : α → α → Bool) (l : List α) : List α := l.foldr (insD lt) []
section
variable {α : Type} {lt : α → α → Bool}
theorem insD_perm (x : α) : ∀ (l : List α), (insD lt x l).Perm (x :: l)
  | [] => .refl _
  | y :: t => by
    unfold insD
    cases lt y x
    · exact .refl _
    · exact ((insD_perm x t).cons y).trans (.swap x y t)
theorem isort_perm : ∀ (l : List α), (isort lt l).Perm l
  | [] => .refl _
  | x :: l => (insD_perm x (isort lt l)).trans ((isort_perm l).cons x)
theorem insD_ord (L : Lin lt) (x : α) : ∀ (l : List α), l.Pairwise (fun x y => lt y x = false) → (insD lt x l).Pairwise (fun x y => lt y x = false)
  | [], _ => by simp [insD]
  | y :: t, h => by
    have h' := List.pairwise_cons.1 h
    unfold insD
    cases hc : lt y x
    · refine List.pairwise_cons.2 ⟨fun z hz => ?_, h⟩
      rcases List.mem_cons.1 hz with rfl | hz
      · exact hc
      · cases hzx : lt z x with
        | false => rfl
        | true =>
          have h1 := h'.1 z hz
          cases hxy : lt x y with
          | true => rw [L.tr _ _ _ hzx hxy] at h1; cases h1
          | false =>
            obtain rfl := L.tot _ _ hc hxy
            rw [h1] at hzx; cases hzx
    · refine List.pairwise_cons.2 ⟨fun z hz => ?_, insD_ord L x t h'.2⟩
      rcases List.mem_cons.1 ((insD_perm x t).subset hz) with rfl | hz
      · cases hxy : lt z y with
        | false => rfl
        | true => have := L.tr _ _ _ hc hxy; rw [L.irr] at this; cases this
      · exact h'.1 z hz
theorem isort_ord (L : Lin lt) : ∀ (l : List α), (isort lt l).Pairwise (fun x y => lt y x = false)
  | [] => .nil
  | x :: l => insD_ord L x _ (isort_ord L l)
end
def sortS (l : List ByteArray) : List ByteArray := isort ltS l
theorem sortS_len (l : List ByteArray) : (sortS l).length = l.length := (isort_perm l).length_eq
theorem sortS_bs (l : List ByteArray) : (bs l).mergeSort (fun x y => decide (x ≤ y)) = bs (sortS l) := by
  refine List.Perm.eq_of_pairwise (le := fun (x y : List UInt8) => ltL y x = false) (fun a b _ _ h1 h2 => linL.tot a b h2 h1) ?_ ?_ ?_
  · have := List.pairwise_mergeSort (le := fun (x y : List UInt8) => decide (x ≤ y)) (fun a b c h1 h2 => decide_eq_true (List.le_trans (of_decide_eq_true h1) (of_decide_eq_true h2)))
      (fun a b => by
        rcases List.le_total a b with h | h
        · simp [h]
        · simp [h]) (bs l)
    exact this.imp fun h => decide_eq_false (List.not_lt.2 (of_decide_eq_true h))
  · exact List.pairwise_map.2 (isort_ord linS l)
  · exact (List.mergeSort_perm _ _).trans ((isort_perm l).symm.map _)
def unbs (l : List (List UInt8)) : List ByteArray := l.map fun b => ⟨b.toArray⟩
theorem unbs_bs (l : List ByteArray) : unbs (bs l) = l := by
  unfold unbs bs
  rw [List.map_map]
  conv => rhs; rw [← List.map_id l]
  refine List.map_congr_left fun b _ => ?_
  cases b; rfl
theorem bs_unbs (l : List (List UInt8)) : bs (unbs l) = l := by
  unfold unbs bs
  rw [List.map_map]
  conv => rhs; rw [← List.map_id l]
  exact List.map_congr_left fun b _ => rfl
def compS (l : List ByteArray) : List ByteArray := unbs (Lib.compact (bs l))
theorem compact_len (l : List (List UInt8)) : (Lib.compact l).length ≤ l.length := by
  have : ∀ m, (Lib.compactUpTo l.toArray m).length ≤ m := by
    intro m
    induction m with
    | zero => simp [Lib.compactUpTo]
    | succ m ih =>
      rw [Lib.compactUpTo_succ, List.length_append]
      split <;> simp <;> omega
  exact this _
theorem compS_sortS (l : List ByteArray) : compS (sortS l) = sorted l := by
  unfold compS
  rw [← sortS_bs, sort_compact, unbs_bs]
theorem bs_len (l : List ByteArray) : (bs l).length = l.length := by simp [bs]
theorem enc_bs (l : List ByteArray) : (bs l).map Go.Proofs.encStr = l.map Value.string := by
  unfold bs
  rw [List.map_map]
  refine List.map_congr_left fun b _ => ?_
  cases b
  rfl
theorem putCells_list {α : Type} [Inhabited α] (enc : α → Value) (o : Nat) (d : List α) (c : Array Value) (h : o + d.length ≤ c.size) : (putCells enc o d.toArray c).toList = c.toList.take o ++ d.map enc ++ c.toList.drop (o + d.length) := by
  have hcl : c.toList.length = c.size := Array.length_toList
  apply List.ext_getElem?
  intro k
  simp only [putCells, Array.getElem?_toList, Array.getElem?_mapIdx, List.size_toArray]
  have hl : (c.toList.take o).length = o := by rw [List.length_take]; omega
  by_cases h1 : k < o
  · rw [List.append_assoc, List.getElem?_append_left (by omega), List.getElem?_take_of_lt h1, Array.getElem?_toList]
    cases c[k]? with
    | none => rfl
    | some y => simp only [Option.map_some]; rw [if_neg (by omega)]
  · by_cases h2 : k < o + d.length
    · rw [List.append_assoc, List.getElem?_append_right (by omega), hl, List.getElem?_append_left (by simp; omega), List.getElem?_map]
      have hk : k < c.size := by omega
      rw [Array.getElem?_eq_getElem hk, Option.map_some, if_pos ⟨by omega, h2⟩, List.getElem?_eq_getElem (by omega), Option.map_some]
      rw [getElem!_pos _ _ (by simp; omega)]
      simp
    · rw [List.getElem?_append_right (by simp; omega), List.getElem?_drop, Array.getElem?_toList]
      have : o + d.length + (k - (List.take o c.toList ++ List.map enc d).length) = k := by rw [List.length_append, hl, List.length_map]; omega
      rw [this]
      cases c[k]? with
      | none => rfl
      | some y => simp only [Option.map_some]; rw [if_neg (by omega)]
end Go.Proofs.YtpgipdajinkdgaaGreatA.Ord
namespace Go.Proofs.YtpgipdajinkdgaaGreatA
open Go Go.RowKit Go.Sort
set_option linter.all false
set_option linter.unusedSectionVars false
set_option linter.constructorNameAsVariable false
set_option linter.unusedVariables false
def sstr (s : ByteArray) : AV := .sc (.string s)
def strsOf : List AV → Option (List ByteArray)
  | [] => some []
  | .sc (.string s) :: r => (strsOf r).map (s :: ·)
  | _ => none
theorem strsOf_map : ∀ (l : List ByteArray), strsOf (l.map sstr) = some l
  | [] => rfl
  | s :: l => by simp only [List.map_cons, sstr, strsOf]; rw [strsOf_map l]; rfl
theorem strsOf_eq : ∀ {xs : List AV} {l : List ByteArray}, strsOf xs = some l → xs = l.map sstr
  | [], l, h => by simp only [strsOf, Option.some.injEq] at h; rw [← h]; rfl
  | x :: xs, l, h => by
    unfold strsOf at h
    split at h
    · rename_i e; cases e
    · rename_i s r e
      cases e
      obtain ⟨m, hm, rfl⟩ := Option.map_eq_some_iff.1 h
      rw [strsOf_eq hm]; rfl
    · cases h
theorem vrl_strs {w : World} {Fb : Nat → Prop} {B : BM} : ∀ {l : List ByteArray} {ys : List Value}, VRL w Fb B (l.map sstr) ys → ys = l.map Value.string
  | [], _, h => by simpa [VRL] using h
  | s :: l, _, h => by
    simp only [List.map_cons, VRL] at h
    obtain ⟨y, r, rfl, h1, h2⟩ := h
    simp only [sstr, VR] at h1
    rw [h1, vrl_strs h2]; rfl
theorem strs_vrl {w : World} {Fb : Nat → Prop} {B : BM} : ∀ (l : List ByteArray), VRL w Fb B (l.map sstr) (l.map Value.string)
  | [] => by simp [VRL]
  | s :: l => by simp only [List.map_cons, VRL]; exact ⟨_, _, rfl, by simp [sstr, VR], strs_vrl l⟩
section
variable {P : Program} {w : World} {F : Nat → Prop} {B : BM} {H : List Blk}
theorem upd_grow {w' : World} {b g ver : Nat} {c : Option Nat} {blk blk2 : Blk} (hR : HR w F B H) (hB : B b = some (g, ver, c)) (hk : H[b]? = some blk) (hns : blk.kind ≠ .app ∧ blk.kind ≠ .ali) (hv : ver = blk2.ver)
    (h1 : w'.os = w.os) (h2 : w'.tape = w.tape) (h3 : w'.output = w.output) (h0 : w.drawn ≤ w'.drawn) (h4 : w.heap.size ≤ w'.heap.size) (h5 : ∀ i, i < w.heap.size → g ≠ i → w'.heap[i]? = w.heap[i]?)
    (hnew : Ext w B w' B → BRel w' (Forb F B) B blk2 g c) : Ext w B w' B ∧ HR w' F B (H.set b blk2) := by
  have hE : Ext w B w' B := ⟨h1, h2, h3, h4, h0, fun i hi ho => ⟨h5 i hi (fun e => ho ⟨b, ver, c, by rw [← e]; exact hB⟩), ho⟩, BLe.refl B⟩
  have hno : ∀ b', ¬ Shared H b b' := fun b' hs => by
    rcases hs.kind hk with h | h
    · exact hns.1 h
    · exact hns.2 h
  refine ⟨hE, ?_, fun b1 b2 g1 v1 v2 c1 c2 k1 k2 => ?_, hR.nf, fun i hi => Nat.lt_of_lt_of_le (hR.lt i hi) h4⟩
  rotate_left
  · rcases hR.inj b1 b2 g1 v1 v2 c1 c2 k1 k2 with h | h
    · exact .inl h
    · have n1 : b1 ≠ b := fun e => hno b2 (e ▸ h)
      have n2 : b2 ≠ b := fun e => hno b1 (e ▸ h.symm)
      exact .inr (h.mono (List.getElem?_set_ne (Ne.symm n1)) (List.getElem?_set_ne (Ne.symm n2)))
  intro b' g' v' c' hB'
  obtain ⟨blk', hk', hv', hr⟩ := hR.at_ b' g' v' c' hB'
  by_cases hbb : b = b'
  · subst hbb
    rw [hB] at hB'
    cases hB'
    refine ⟨blk2, ?_, hv, hnew hE⟩
    have : b < H.length := by rcases Nat.lt_or_ge b H.length with h | h; exact h; rw [List.getElem?_eq_none h] at hk; cases hk
    rw [List.getElem?_set_self this]
  · refine ⟨blk', by rw [List.getElem?_set_ne hbb]; exact hk', hv', hr.ext hE (h5 g' hr.lt ?_)⟩
    intro e
    exact (hR.inj b b' g ver v' c c' hB (by rw [e]; exact hB')).elim hbb (hno b')
def putBlk (blk : Blk) (o n : Nat) (l : List ByteArray) : Blk := { blk with cells := blk.cells.take o ++ l.map sstr ++ blk.cells.drop (o + n) }
theorem row_put {b g ver o n : Nat} {c : Option Nat} {blk : Blk} {l : List ByteArray} (hR : HR w F B H) (hB : B b = some (g, ver, c)) (hk : blkAt H b ver = some blk) (hl : strsOf ((blk.cells.drop o).take n) = some l) (hn : l.length = n) (hbr : BRelC w (Forb F B) B blk g c) :
    g < w.heap.size ∧ Holds Go.Proofs.encStr w g o (Ord.bs l).toArray ∧ ∀ (m : List ByteArray) (q : Nat) (os : Array Obj), m.length = n →
      Ext w B (grow (putRow Go.Proofs.encStr (Sort.ahead w q) g o (Ord.bs m).toArray) os) B ∧ HR (grow (putRow Go.Proofs.encStr (Sort.ahead w q) g o (Ord.bs m).toArray) os) F B (H.set b (putBlk blk o n m)) := by
  obtain ⟨cur, ys, rest, q1, q2, q3, q4, q5⟩ := hbr
  obtain ⟨hkk, hver, hkd⟩ := blkAt_some hk
  have hg := lt_of_at q1
  have hys : (ys.drop o).take n = l.map Value.string := by
    have h1 := VRL.take n (VRL.drop o q3)
    rw [strsOf_eq hl] at h1
    exact vrl_strs h1
  have hlen : o + n ≤ ys.length ∨ n = 0 := by
    have := congrArg List.length hys
    rw [List.length_take, List.length_drop, List.length_map, hn] at this
    omega
  have hcl : cur.toList.length = cur.size := Array.length_toList
  have hcl2 := hcl
  rw [q2, List.length_append] at hcl2
  have hyl := q3.length
  refine ⟨hg, ?_, ?_⟩
  · intro j hj
    have hj' : j < l.length := by simpa [Ord.bs] using hj
    have e : cur[o + j]? = some (.string l[j]) := by
      have h3 := congrArg (fun l => l[j]?) hys
      simp only [List.getElem?_take, show j < n by omega, if_true, List.getElem?_map, List.getElem?_drop] at h3
      rw [← Array.getElem?_toList, q2, List.getElem?_append_left (by omega), h3]
      simp [hj']
    refine ⟨?_, by simp [World.frozen?, q1]⟩
    simp only [World.cell?, q1, e]
    rw [getElem!_pos _ j hj]
    simp only [Ord.bs, List.getElem_toArray, List.getElem_map]
    simp
  · intro m q os hm
    have hs : (putRow Go.Proofs.encStr (Sort.ahead w q) g o (Ord.bs m).toArray).heap.size = w.heap.size := by rw [Go.Sort.size_putRow]; rfl
    have hi : ∀ k, k < w.heap.size → (grow (putRow Go.Proofs.encStr (Sort.ahead w q) g o (Ord.bs m).toArray) os).heap[k]? = (putRow Go.Proofs.encStr (Sort.ahead w q) g o (Ord.bs m).toArray).heap[k]? := by
      intro k hk
      show (_ ++ os)[k]? = _
      rw [Array.getElem?_append_left (by rw [hs]; exact hk)]
    have hsz : w.heap.size ≤ (grow (putRow Go.Proofs.encStr (Sort.ahead w q) g o (Ord.bs m).toArray) os).heap.size := by
      show _ ≤ (_ ++ os).size
      rw [Array.size_append, hs]
      exact Nat.le_add_right _ _
    refine upd_grow (blk2 := putBlk blk o n m) hR hB hkk (by rw [(blkAt_some hk).2.2]; exact ⟨by simp, by simp⟩) hver.symm rfl rfl rfl (Nat.le_add_right _ _) hsz (fun i h1 h2 => ?_) (fun hE => ?_)
    · rw [hi i h1]
      unfold putRow mapBlock
      simp only [Array.getElem?_modify, heap_ahead]
      rw [if_neg h2]
    · have hblk : (grow (putRow Go.Proofs.encStr (Sort.ahead w q) g o (Ord.bs m).toArray) os).heap[g]? = some (.cells (putCells Go.Proofs.encStr o (Ord.bs m).toArray cur) blk.elem (0, 0)) := by
        rw [hi g hg]
        unfold putRow mapBlock
        simp only [Array.getElem?_modify, heap_ahead, q1, if_true, Option.map_some]
        rfl
      have hpl : (putCells Go.Proofs.encStr o (Ord.bs m).toArray cur).toList = (ys.take o ++ m.map Value.string ++ ys.drop (o + n)) ++ rest := by
        by_cases hn0 : o + n ≤ ys.length
        · rw [Ord.putCells_list _ _ _ _ (by rw [Ord.bs_len]; omega), Ord.enc_bs, Ord.bs_len, hm, q2, List.take_append_of_le_length (by omega), List.drop_append_of_le_length (by omega)]
          simp only [List.append_assoc]
        · have hn1 : n = 0 := by omega
          subst hn1
          obtain rfl := List.eq_nil_of_length_eq_zero hm
          have : putCells Go.Proofs.encStr o (Ord.bs []).toArray cur = cur := by
            apply Array.ext_getElem?
            intro i
            simp only [putCells, Array.getElem?_mapIdx, Ord.bs, List.map_nil, List.size_toArray, List.length_nil, Nat.add_zero]
            cases cur[i]? with
            | none => rfl
            | some y => simp only [Option.map_some]; rw [if_neg (by omega)]
          rw [this, q2]
          simp
      have hsize : (putCells Go.Proofs.encStr o (Ord.bs m).toArray cur).size = cur.size := by simp [putCells]
      simp only [BRel, putBlk, hkd]
      refine ⟨_, ys.take o ++ m.map Value.string ++ ys.drop (o + n), rest, hblk, hpl, ?_, ?_, fun h => by rw [hsize]; exact q5.1 h, q5.2⟩
      · exact (VRL.append (VRL.append (VRL.take o q3) (strs_vrl m)) (VRL.drop _ q3)).ext hE
      · intro u hu
        rcases List.mem_append.1 hu with hu | hu
        · rcases List.mem_append.1 hu with hu | hu
          · exact q4 u (List.mem_of_mem_take hu)
          · obtain ⟨s, _, rfl⟩ := List.mem_map.1 hu
            rfl
        · exact q4 u (List.mem_of_mem_drop hu)
theorem Full.set {B : BM} {H : List Blk} (h : Full B H) (b : Nat) (blk : Blk) : Full B (H.set b blk) := fun i hi => h i (by rwa [List.length_set] at hi)
end
def SortC (P : Program) (f : FuncId) : Prop :=
  (∀ (blk off cap : Nat) (ss : List (List UInt8)) (w : World), Holds Go.Proofs.encStr w blk off ss.toArray → blk < w.heap.size → ss.length < 4611686018427387904 →
    Calls P f #[.slice (some ⟨blk, off, none⟩) ss.length cap] w fun e w' => e = .returned (.tuple #[]) ∧ ∃ n os, w' = grow (putRow Go.Proofs.encStr (Sort.ahead w n) blk off (ss.mergeSort fun x y => decide (x ≤ y)).toArray) os) ∧
  (∀ (p : Option Addr) (cap : Nat) (w : World), Calls P f #[.slice p 0 cap] w fun e w' => e = .returned (.tuple #[]) ∧ w' = w)
def CompactC (P : Program) (f : FuncId) : Prop :=
  (∀ (blk off cap : Nat) (zs : List (List UInt8)) (w : World), Holds Go.Proofs.encStr w blk off zs.toArray → zs.length ≤ 9223372036854775807 → zs.length ≤ cap →
    Calls P f #[.slice (some ⟨blk, off, none⟩) zs.length cap] w fun e w' => e = .returned (.slice (some ⟨blk, off, none⟩) (Lib.compact zs).length cap) ∧ ∃ q, w' = putRow Go.Proofs.encStr (Sort.ahead w q) blk off (Lib.compact zs ++ List.replicate (zs.length - (Lib.compact zs).length) []).toArray) ∧
  (∀ (a : Option Addr) (cap : Nat) (w : World), Calls P f #[.slice a 0 cap] w fun e w' => e = .returned (.slice a 0 cap) ∧ w' = w)
def ownStrs (H : List Blk) : AV → Option (Nat × Nat × Nat × Nat × Blk × List ByteArray)
  | .own b o len sz ver =>
    match blkAt H b ver with
    | some blk => match strsOf ((blk.cells.drop o).take len) with
      | some l => if sz = 1 ∧ l.length = len ∧ len < 4611686018427387904 then some (b, o, len, ver, blk, l) else none
      | none => none
    | none => none
  | _ => none
def sortPrim : List AV → List Blk → Option (AV × List Blk) := fun args H => match args with
  | [x] => match ownStrs H x with
    | some (b, o, len, _, blk, l) => some (.tup [], H.set b (putBlk blk o len (Ord.sortS l)))
    | none => match x with
      | .z => some (.tup [], H)
      | .lst _ [] => some (.tup [], H)
      | .sc (.slice _ 0 _) => some (.tup [], H)
      | _ => none
  | _ => none
def compactPrim : List AV → List Blk → Option (AV × List Blk) := fun args H => match args with
  | [x] => match ownStrs H x with
    | some (b, o, len, ver, blk, l) => some (.own b o (Ord.compS l).length 1 ver, H.set b (putBlk blk o len (Ord.compS l ++ List.replicate (len - (Ord.compS l).length) ⟨#[]⟩)))
    | none => match x with
      | .z => some (.z, H)
      | .sc (.slice A 0 c) => some (.sc (.slice A 0 c), H)
      | _ => none
  | _ => none
theorem ownStrs_some {H : List Blk} {x : AV} {b o len ver : Nat} {blk : Blk} {l : List ByteArray} (h : ownStrs H x = some (b, o, len, ver, blk, l)) :
    x = .own b o len 1 ver ∧ blkAt H b ver = some blk ∧ strsOf ((blk.cells.drop o).take len) = some l ∧ l.length = len ∧ len < 4611686018427387904 := by
  unfold ownStrs at h
  split at h <;> try (cases h; done)
  split at h <;> try (cases h; done)
  rename_i hb
  split at h <;> try (cases h; done)
  rename_i hs
  split at h <;> try (cases h; done)
  rename_i hc
  cases h
  exact ⟨by rw [hc.1], hb, hs, hc.2⟩
theorem sort_ok {P : Program} {f : FuncId} (hen : Enter P f) (hS : SortC P f) {args : List AV} {H H' : List Blk} {r : AV} (h : sortPrim args H = some (r, H')) : Enter P f ∧ CallOk P f args H r H' := by
  refine ⟨hen, fun w F B vs hR hF hv => ?_⟩
  unfold sortPrim at h
  split at h <;> try (cases h; done)
  rename_i x
  simp only [VRL] at hv
  obtain ⟨v, _, rfl, h1, rfl⟩ := hv
  have nil : ∀ (A : Option Addr) (cap : Nat), v = .slice A 0 cap → r = .tup [] → H' = H → Calls P f [v].toArray w fun e w' => ∃ v B', e = .returned v ∧ Ext w B w' B' ∧ HR w' F B' H' ∧ Full B' H' ∧ VR w' (Forb F B') B' r v := by
    rintro A cap rfl rfl rfl
    refine (hS.2 A cap w).mono ?_
    rintro e w' ⟨rfl, rfl⟩
    exact ⟨_, B, rfl, Ext.refl _ _, hR, hF, by simp only [VR, VRL]; exact ⟨#[], rfl, rfl⟩⟩
  split at h
  · rename_i b o len ver blk l hx
    cases h
    obtain ⟨rfl, hb, hs, hlen, hlim⟩ := ownStrs_some hx
    obtain ⟨g, cap, c, rfl, hB, hcap, _, hbr⟩ := own_at hR.weak h1 hb
    obtain ⟨hg, hH, hput⟩ := row_put hR hB hb hs hlen hbr
    have hc := hS.1 g o cap (Ord.bs l) w hH hg (by rw [Ord.bs_len]; omega)
    rw [Ord.bs_len, hlen] at hc
    rw [show (⟨g, o * 1, none⟩ : Addr) = ⟨g, o, none⟩ by rw [Nat.mul_one]]
    refine hc.mono ?_
    rintro e w' ⟨rfl, n, os, rfl⟩
    rw [Ord.sortS_bs]
    obtain ⟨hE, hR'⟩ := hput (Ord.sortS l) n os (by rw [Ord.sortS_len, hlen])
    exact ⟨_, B, rfl, hE, hR', hF.set _ _, by simp only [VR, VRL]; exact ⟨#[], rfl, rfl⟩⟩
  · split at h <;> try (cases h; done)
    · cases h
      simp only [VR] at h1
      obtain ⟨A, rfl⟩ := h1
      exact nil A 0 rfl rfl rfl
    · cases h
      simp only [VR] at h1
      obtain ⟨A, cap, ys, rfl, _⟩ := h1
      exact nil A cap rfl rfl rfl
    · cases h
      simp only [VR] at h1
      exact nil _ _ h1 rfl rfl
theorem compact_ok {P : Program} {f : FuncId} (hen : Enter P f) (hS : CompactC P f) {args : List AV} {H H' : List Blk} {r : AV} (h : compactPrim args H = some (r, H')) : Enter P f ∧ CallOk P f args H r H' := by
  refine ⟨hen, fun w F B vs hR hF hv => ?_⟩
  unfold compactPrim at h
  split at h <;> try (cases h; done)
  rename_i x
  simp only [VRL] at hv
  obtain ⟨v, _, rfl, h1, rfl⟩ := hv
  split at h
  · rename_i b o len ver blk l hx
    cases h
    obtain ⟨rfl, hb, hs, hlen, hlim⟩ := ownStrs_some hx
    obtain ⟨g, cap, c, rfl, hB, hcap, hcc, hbr⟩ := own_at hR.weak h1 hb
    obtain ⟨hg, hH, hput⟩ := row_put hR hB hb hs hlen hbr
    have hc := hS.1 g o cap (Ord.bs l) w hH (by rw [Ord.bs_len]; omega) (by rw [Ord.bs_len]; omega)
    have hcl : Lib.compact (Ord.bs l) = Ord.bs (Ord.compS l) := by unfold Ord.compS; rw [Ord.bs_unbs]
    have hle : (Ord.compS l).length ≤ len := by
      rw [← Ord.bs_len, ← hcl, ← hlen, ← Ord.bs_len l]
      exact Ord.compact_len _
    rw [hcl, Ord.bs_len, Ord.bs_len, hlen] at hc
    rw [show (⟨g, o * 1, none⟩ : Addr) = ⟨g, o, none⟩ by rw [Nat.mul_one]]
    refine hc.mono ?_
    rintro e w' ⟨rfl, q, rfl⟩
    have e1 : Ord.bs (Ord.compS l) ++ List.replicate (len - (Ord.compS l).length) [] = Ord.bs (Ord.compS l ++ List.replicate (len - (Ord.compS l).length) ⟨#[]⟩) := by
      unfold Ord.bs
      rw [List.map_append, List.map_replicate]
    rw [e1]
    obtain ⟨hE, hR'⟩ := hput (Ord.compS l ++ List.replicate (len - (Ord.compS l).length) ⟨#[]⟩) q #[] (by rw [List.length_append, List.length_replicate]; omega)
    rw [grow_empty] at hE hR'
    refine ⟨_, B, rfl, hE, hR', hF.set _ _, ?_⟩
    simp only [VR]
    exact ⟨_, _, _, _, _, rfl, hB, Nat.le_refl _, fun _ => ⟨by rw [Nat.mul_one], by omega, hcc⟩⟩
  · split at h <;> try (cases h; done)
    · cases h
      simp only [VR] at h1
      obtain ⟨A, rfl⟩ := h1
      refine (hS.2 A 0 w).mono ?_
      rintro e w' ⟨rfl, rfl⟩
      exact ⟨_, B, rfl, Ext.refl _ _, hR, hF, by simp only [VR]; exact ⟨A, rfl⟩⟩
    · cases h
      simp only [VR] at h1
      subst h1
      refine (hS.2 _ _ w).mono ?_
      rintro e w' ⟨rfl, rfl⟩
      exact ⟨_, B, rfl, Ext.refl _ _, hR, hF, by simp only [VR]⟩
end Go.Proofs.YtpgipdajinkdgaaGreatA

namespace Go.Proofs.YtpgipdajinkdgaaGreatA
open Go Go.RowKit Go.Sort
set_option linter.all false
set_option linter.unusedSectionVars false
set_option linter.constructorNameAsVariable false
set_option linter.unusedVariables false
abbrev I2 := Int × Int
def encI2 (p : I2) : List Value := [.int .i64 p.1, .int .i64 p.2]
def pC (p : I2) : List AV := [.sc (.int .i64 p.1), .sc (.int .i64 p.2)]
def cmpJ (a b : Int) : Int := if a < b then -1 else if b < a then 1 else 0
def cmpP2 (x y : I2) : Int := if cmpJ x.1 y.1 = 0 then cmpJ x.2 y.2 else cmpJ x.1 y.1
def ltP2 (x y : I2) : Bool := decide (x.1 < y.1 ∨ (x.1 = y.1 ∧ x.2 < y.2))
theorem cmpJ_lt (a b : Int) : (cmpJ a b < 0) ↔ a < b := by unfold cmpJ; split <;> (try split) <;> omega
theorem cmpJ_eq (a b : Int) : cmpJ a b = 0 ↔ a = b := by unfold cmpJ; split <;> (try split) <;> omega
theorem lt_pair (x y : I2) : decide (cmpP2 x y < 0) = ltP2 x y := by
  unfold ltP2 cmpP2
  refine decide_eq_decide.2 ?_
  split
  · rename_i h
    rw [cmpJ_lt]
    have := (cmpJ_eq _ _).1 h
    constructor
    · intro h2; exact .inr ⟨this, h2⟩
    · rintro (h2 | h2)
      · omega
      · exact h2.2
  · rename_i h
    rw [cmpJ_lt]
    constructor
    · exact .inl
    · rintro (h2 | h2)
      · exact h2
      · exact absurd ((cmpJ_eq _ _).2 h2.1) h
theorem linP2 : Ord.Lin ltP2 where
  irr x := decide_eq_false (by omega)
  tr x y z h1 h2 := by
    have := of_decide_eq_true h1
    have := of_decide_eq_true h2
    exact decide_eq_true (by omega)
  tot x y h1 h2 := by
    have h1 := of_decide_eq_false h1
    have h2 := of_decide_eq_false h2
    cases x; cases y
    simp only at h1 h2
    congr 1 <;> omega
def sortI2 (l : List I2) : List I2 := Ord.isort ltP2 l
theorem sortI2_len (l : List I2) : (sortI2 l).length = l.length := (Ord.isort_perm l).length_eq
theorem sortI2_merge (l : List I2) : (l.mergeSort fun x y => !decide (cmpP2 y x < 0)) = sortI2 l := by
  refine List.Perm.eq_of_pairwise (le := fun x y => ltP2 y x = false) (fun a b _ _ h1 h2 => linP2.tot a b h2 h1) ?_ (Ord.isort_ord linP2 l) ((List.mergeSort_perm _ _).trans (Ord.isort_perm l).symm)
  have := List.pairwise_mergeSort (le := fun (x y : I2) => !decide (cmpP2 y x < 0)) (fun a b c h1 h2 => by
    simp only [lt_pair, Bool.not_eq_true'] at *
    cases h3 : ltP2 c a with
    | false => rfl
    | true =>
      cases h4 : ltP2 b c with
      | true => have := linP2.tr _ _ _ h4 h3; rw [h1] at this; cases this
      | false =>
        have := linP2.tot _ _ h2 h4
        subst this
        rw [h1] at h3; cases h3) (fun a b => by
    simp only [lt_pair]
    cases h : ltP2 b a with
    | false => rfl
    | true =>
      cases h2 : ltP2 a b with
      | false => rfl
      | true => have := linP2.tr _ _ _ h h2; rw [linP2.irr] at this; cases this) l
  exact this.imp fun h => by simpa [lt_pair] using h
def flatV (l : List I2) : List Value := (l.map encI2).flatten
theorem flatV_len : ∀ (l : List I2), (flatV l).length = l.length * 2
  | [] => rfl
  | p :: l => by
    have := flatV_len l
    unfold flatV at this ⊢
    simp only [List.map_cons, List.flatten_cons, List.length_append, List.length_cons, this]
    show 2 + _ = _
    omega
theorem flatV_get : ∀ (l : List I2) (t : Nat), t < l.length * 2 → (flatV l)[t]? = some (encI2 (l[t / 2]?.getD (0, 0)))[t % 2]!
  | [], t, h => absurd h (by simp)
  | p :: l, 0, _ => rfl
  | p :: l, 1, _ => rfl
  | p :: l, t + 2, h => by
    have := flatV_get l t (by simp only [List.length_cons] at h; omega)
    rw [show (t + 2) / 2 = t / 2 + 1 by omega, show (t + 2) % 2 = t % 2 by omega, List.getElem?_cons_succ, ← this]
    rfl
theorem flatK_list (l : List I2) : flatK encI2 2 l.toArray = (flatV l).toArray := by
  apply Array.ext_getElem?
  intro t
  rw [show (flatV l).toArray[t]? = (flatV l)[t]? by simp]
  by_cases ht : t < l.length * 2
  · rw [flatV_get l t ht, Array.getElem?_eq_getElem (by simpa using ht)]
    have := get_flatK encI2 2 l.toArray t (by simpa using ht)
    rw [getElem!_pos _ t (by simpa using ht)] at this
    rw [this, getElem!_pos l.toArray (t / 2) (by simp; omega)]
    rw [List.getElem?_eq_getElem (by omega)]
    simp
  · rw [Array.getElem?_eq_none (by simp; omega), List.getElem?_eq_none (by rw [flatV_len]; omega)]
theorem pC_flat : ∀ (l : List I2), (l.map pC).flatten = (flatV l).map AV.sc
  | [] => rfl
  | p :: l => by
    have := pC_flat l
    unfold flatV at this ⊢
    simp only [List.map_cons, List.flatten_cons, List.map_append, this]
    rfl
theorem vrl_sc {w : World} {Fb : Nat → Prop} {B : BM} : ∀ {us ys : List Value}, VRL w Fb B (us.map .sc) ys → ys = us
  | [], _, h => by simpa [VRL] using h
  | u :: us, _, h => by
    simp only [List.map_cons, VRL] at h
    obtain ⟨y, r, rfl, h1, h2⟩ := h
    simp only [VR] at h1
    rw [h1, vrl_sc h2]
def pairsOf : List AV → Option (List I2)
  | [] => some []
  | .sc (.int .i64 a) :: .sc (.int .i64 b) :: r => (pairsOf r).map ((a, b) :: ·)
  | _ => none
theorem pairsOf_map : ∀ (l : List I2), pairsOf (l.map pC).flatten = some l
  | [] => rfl
  | p :: l => by
    simp only [List.map_cons, List.flatten_cons, pC, List.cons_append, List.nil_append, pairsOf]
    rw [show pairsOf (l.map pC).flatten = some l from pairsOf_map l]; rfl
theorem pairsOf_eq : ∀ (n : Nat) {xs : List AV} {l : List I2}, xs.length ≤ n → pairsOf xs = some l → xs = (flatV l).map .sc
  | _, [], l, _, h => by simp only [pairsOf, Option.some.injEq] at h; rw [← h]; rfl
  | 0, x :: xs, l, hn, h => by simp at hn
  | n + 1, x :: xs, l, hn, h => by
    unfold pairsOf at h
    split at h
    · rename_i e; cases e
    · rename_i a b r e
      cases e
      obtain ⟨m, hm, rfl⟩ := Option.map_eq_some_iff.1 h
      rw [pairsOf_eq n (by simp only [List.length_cons] at hn; omega) hm]; rfl
    · cases h
section
variable {P : Program} {w : World} {F : Nat → Prop} {B : BM} {H : List Blk}
def putV (blk : Blk) (o n : Nat) (vs : List Value) : Blk := { blk with cells := blk.cells.take o ++ vs.map AV.sc ++ blk.cells.drop (o + n) }
theorem row_putV {b g ver o n : Nat} {c : Option Nat} {blk : Blk} {us : List Value} (hR : HR w F B H) (hB : B b = some (g, ver, c)) (hk : blkAt H b ver = some blk) (hl : (blk.cells.drop o).take n = us.map .sc) (hn : us.length = n) (hbr : BRelC w (Forb F B) B blk g c) :
    g < w.heap.size ∧ Holds id w g o us.toArray ∧ ∀ (vs : List Value) (q : Nat) (os : Array Obj), vs.length = n → (∀ v ∈ vs, v.oneCell' = true) →
      Ext w B (grow (putRow id (Sort.ahead w q) g o vs.toArray) os) B ∧ HR (grow (putRow id (Sort.ahead w q) g o vs.toArray) os) F B (H.set b (putV blk o n vs)) := by
  obtain ⟨cur, ys, rest, q1, q2, q3, q4, q5⟩ := hbr
  obtain ⟨hkk, hver, hkd⟩ := blkAt_some hk
  have hg := lt_of_at q1
  have hys : (ys.drop o).take n = us := by
    have h1 := VRL.take n (VRL.drop o q3)
    rw [hl] at h1
    exact vrl_sc h1
  have hlen : o + n ≤ ys.length ∨ n = 0 := by
    have := congrArg List.length hys
    rw [List.length_take, List.length_drop, hn] at this
    omega
  have hcl : cur.toList.length = cur.size := Array.length_toList
  have hcl2 := hcl
  rw [q2, List.length_append] at hcl2
  have hyl := q3.length
  refine ⟨hg, ?_, ?_⟩
  · intro j hj
    have hj' : j < us.length := by simpa using hj
    have e : cur[o + j]? = some us[j] := by
      have h3 := congrArg (fun l => l[j]?) hys
      simp only [List.getElem?_take, show j < n by omega, if_true, List.getElem?_drop] at h3
      rw [← Array.getElem?_toList, q2, List.getElem?_append_left (by omega), h3]
      simp [hj']
    refine ⟨?_, by simp [World.frozen?, q1]⟩
    rw [getElem!_pos _ j hj]
    simpa [World.cell?, q1] using e
  · intro m q os hm ho
    have hs : (putRow id (Sort.ahead w q) g o m.toArray).heap.size = w.heap.size := by rw [Go.Sort.size_putRow]; rfl
    have hi : ∀ k, k < w.heap.size → (grow (putRow id (Sort.ahead w q) g o m.toArray) os).heap[k]? = (putRow id (Sort.ahead w q) g o m.toArray).heap[k]? := by
      intro k hk
      show (_ ++ os)[k]? = _
      rw [Array.getElem?_append_left (by rw [hs]; exact hk)]
    have hsz : w.heap.size ≤ (grow (putRow id (Sort.ahead w q) g o m.toArray) os).heap.size := by
      show _ ≤ (_ ++ os).size
      rw [Array.size_append, hs]
      exact Nat.le_add_right _ _
    refine upd_grow (blk2 := putV blk o n m) hR hB hkk (by rw [(blkAt_some hk).2.2]; exact ⟨by simp, by simp⟩) hver.symm rfl rfl rfl (Nat.le_add_right _ _) hsz (fun i h1 h2 => ?_) (fun hE => ?_)
    · rw [hi i h1]
      unfold putRow mapBlock
      simp only [Array.getElem?_modify, heap_ahead]
      rw [if_neg h2]
    · have hblk : (grow (putRow id (Sort.ahead w q) g o m.toArray) os).heap[g]? = some (.cells (putCells id o m.toArray cur) blk.elem (0, 0)) := by
        rw [hi g hg]
        unfold putRow mapBlock
        simp only [Array.getElem?_modify, heap_ahead, q1, if_true, Option.map_some]
        rfl
      have hpl : (putCells id o m.toArray cur).toList = (ys.take o ++ m ++ ys.drop (o + n)) ++ rest := by
        by_cases hn0 : o + n ≤ ys.length
        · rw [Ord.putCells_list _ _ _ _ (by omega), List.map_id, hm, q2, List.take_append_of_le_length (by omega), List.drop_append_of_le_length (by omega)]
          simp only [List.append_assoc]
        · have hn1 : n = 0 := by omega
          subst hn1
          obtain rfl := List.eq_nil_of_length_eq_zero hm
          have : putCells id o ([] : List Value).toArray cur = cur := by
            apply Array.ext_getElem?
            intro i
            simp only [putCells, Array.getElem?_mapIdx, List.size_toArray, List.length_nil, Nat.add_zero]
            cases cur[i]? with
            | none => rfl
            | some y => simp only [Option.map_some]; rw [if_neg (by omega)]
          rw [this, q2]
          simp
      have hsize : (putCells id o m.toArray cur).size = cur.size := by simp [putCells]
      simp only [BRel, putV, hkd]
      refine ⟨_, ys.take o ++ m ++ ys.drop (o + n), rest, hblk, hpl, ?_, ?_, fun h => by rw [hsize]; exact q5.1 h, q5.2⟩
      · exact (VRL.append (VRL.append (VRL.take o q3) (VRL.sc m)) (VRL.drop _ q3)).ext hE
      · intro u hu
        rcases List.mem_append.1 hu with hu | hu
        · rcases List.mem_append.1 hu with hu | hu
          · exact q4 u (List.mem_of_mem_take hu)
          · exact ho u hu
        · exact q4 u (List.mem_of_mem_drop hu)
end
theorem ext_grown {w w' : World} {B' : BM} (h : Ext w BM.none w' B') : ∃ q os, w' = grow (w.drewN q) os := by
  refine ⟨w'.drawn - w.drawn, w'.heap.extract w.heap.size w'.heap.size, ?_⟩
  have hd := h.drawn
  have hs := h.size
  have hh : w'.heap = w.heap ++ w'.heap.extract w.heap.size w'.heap.size := by
    apply Array.ext_getElem?
    intro i
    rw [Array.getElem?_append]
    split
    · rename_i hi
      exact (h.keep i hi (fun ⟨b, v, c, e⟩ => by cases e)).1
    · rename_i hi
      rw [Array.getElem?_extract]
      split
      · rw [show w.heap.size + (i - w.heap.size) = i by omega]
      · rw [Array.getElem?_eq_none (by omega)]
  have h1 := h.os
  have h2 := h.tape
  have h3 := h.output
  obtain ⟨a, b, c, d, e⟩ := w'
  obtain ⟨a', b', c', d', e'⟩ := w
  simp only at hh h1 h2 h3 hd hs ⊢
  unfold grow World.drewN
  simp only [World.mk.injEq]
  exact ⟨hh, h2, by omega, h1, h3⟩
def CmpC (P : Program) (g : FuncId) : Prop := ∀ (x y : I2) (W : World), Calls P g #[.agg (encI2 x).toArray, .agg (encI2 y).toArray] W fun e w' => e = .returned (.int .i64 (cmpP2 x y)) ∧ ∃ q os', w' = grow (W.drewN q) os'
theorem cmpC_of {P : Program} {C0 : Cfg} (hF : Fit P C0) {g : FuncId} {k : Nat} (h : ∀ x y : I2, ∃ H', arun P C0 k g [.agg (pC x), .agg (pC y)] [] = some (.sc (.int .i64 (cmpP2 x y)), H')) : CmpC P g := fun x y W => by
  obtain ⟨H', e⟩ := h x y
  refine ((right hF k _ _ _ _ _ e).2 W (fun _ => False) BM.none [.agg (encI2 x).toArray, .agg (encI2 y).toArray] (HR.empty (fun _ h => h.elim)) (fun b hb => absurd hb (Nat.not_lt_zero _)) ?_).mono ?_
  · simp only [VRL, VR, pC]
    exact ⟨_, _, rfl, ⟨_, rfl, _, _, rfl, rfl, _, _, rfl, rfl, rfl⟩, _, _, rfl, ⟨_, rfl, _, _, rfl, rfl, _, _, rfl, rfl, rfl⟩, rfl⟩
  · rintro e w' ⟨v, B', rfl, hE, _, _, hv⟩
    simp only [VR] at hv
    subst hv
    exact ⟨rfl, ext_grown hE⟩
def SortFC (P : Program) (f g : FuncId) : Prop :=
  (∀ (blk off cap : Nat) (l : List I2) (w : World), HoldsK encI2 2 w blk off l.toArray → blk < w.heap.size → l.length < 4611686018427387904 →
    Calls P f #[.slice (some ⟨blk, off, none⟩) l.length cap, .func (.func g) #[] #[]] w fun e w' => e = .returned (.tuple #[]) ∧ ∃ n os, w' = grow (putRow id (Sort.ahead w n) blk off (flatK encI2 2 (l.mergeSort fun x y => !decide (cmpP2 y x < 0)).toArray)) os) ∧
  (∀ (p : Option Addr) (cap : Nat) (w : World), Calls P f #[.slice p 0 cap, .func (.func g) #[] #[]] w fun e w' => e = .returned (.tuple #[]) ∧ w' = w)
def ownPairs (H : List Blk) : AV → Option (Nat × Nat × Nat × Nat × Blk × List I2)
  | .own b o len sz ver =>
    match blkAt H b ver with
    | some blk => match pairsOf ((blk.cells.drop (o * 2)).take (len * 2)) with
      | some l => if sz = 2 ∧ l.length = len ∧ len < 4611686018427387904 then some (b, o, len, ver, blk, l) else none
      | none => none
    | none => none
  | _ => none
def sortFPrim (g : FuncId) : List AV → List Blk → Option (AV × List Blk) := fun args H => match args with
  | [x, .fn h []] => if h = g then match ownPairs H x with
    | some (b, o, len, _, blk, l) => some (.tup [], H.set b (putV blk (o * 2) (len * 2) (flatV (sortI2 l))))
    | none => match x with
      | .z => some (.tup [], H)
      | .lst _ [] => some (.tup [], H)
      | .sc (.slice _ 0 _) => some (.tup [], H)
      | _ => none
    else none
  | _ => none
theorem ownPairs_some {H : List Blk} {x : AV} {b o len ver : Nat} {blk : Blk} {l : List I2} (h : ownPairs H x = some (b, o, len, ver, blk, l)) :
    x = .own b o len 2 ver ∧ blkAt H b ver = some blk ∧ (blk.cells.drop (o * 2)).take (len * 2) = (flatV l).map .sc ∧ l.length = len ∧ len < 4611686018427387904 := by
  unfold ownPairs at h
  split at h <;> try (cases h; done)
  split at h <;> try (cases h; done)
  rename_i hb
  split at h <;> try (cases h; done)
  rename_i hs
  split at h <;> try (cases h; done)
  rename_i hc
  cases h
  exact ⟨by rw [hc.1], hb, pairsOf_eq _ (Nat.le_refl _) hs, hc.2⟩
theorem sortF_ok {P : Program} {f g : FuncId} (hen : Enter P f) (hS : SortFC P f g) {args : List AV} {H H' : List Blk} {r : AV} (h : sortFPrim g args H = some (r, H')) : Enter P f ∧ CallOk P f args H r H' := by
  refine ⟨hen, fun w F B vs hR hF hv => ?_⟩
  unfold sortFPrim at h
  split at h <;> try (cases h; done)
  rename_i x hh
  split at h <;> try (cases h; done)
  rename_i hg0
  subst hg0
  simp only [VRL, VR] at hv
  obtain ⟨v, _, rfl, h1, _, _, rfl, ⟨c0, rfl, hc0⟩, rfl⟩ := hv
  obtain rfl := Array.toList_eq_nil_iff.1 hc0
  have nil : ∀ (A : Option Addr) (cap : Nat), v = .slice A 0 cap → r = .tup [] → H' = H → Calls P f [v, .func (.func hh) #[] #[]].toArray w fun e w' => ∃ v B', e = .returned v ∧ Ext w B w' B' ∧ HR w' F B' H' ∧ Full B' H' ∧ VR w' (Forb F B') B' r v := by
    rintro A cap rfl rfl rfl
    refine (hS.2 A cap w).mono ?_
    rintro e w' ⟨rfl, rfl⟩
    exact ⟨_, B, rfl, Ext.refl _ _, hR, hF, by simp only [VR, VRL]; exact ⟨#[], rfl, rfl⟩⟩
  split at h
  · rename_i b o len ver blk l hx
    cases h
    obtain ⟨rfl, hb, hs, hlen, hlim⟩ := ownPairs_some hx
    obtain ⟨g, cap, c, rfl, hB, hcap, _, hbr⟩ := own_at hR.weak h1 hb
    obtain ⟨hg, hH, hput⟩ := row_putV hR hB hb hs (by rw [flatV_len, hlen]) hbr
    have hc := hS.1 g (o * 2) cap l w (by unfold HoldsK; rw [flatK_list]; exact hH) hg (by omega)
    rw [hlen] at hc
    refine hc.mono ?_
    rintro e w' ⟨rfl, n, os, rfl⟩
    rw [sortI2_merge, flatK_list]
    obtain ⟨hE, hR'⟩ := hput (flatV (sortI2 l)) n os (by rw [flatV_len, sortI2_len, hlen]) (fun v hv => by
      unfold flatV at hv
      obtain ⟨q, hq, hv⟩ := List.mem_flatten.1 hv
      obtain ⟨p, _, rfl⟩ := List.mem_map.1 hq
      simp only [encI2, List.mem_cons, List.not_mem_nil, or_false] at hv
      rcases hv with rfl | rfl <;> rfl)
    exact ⟨_, B, rfl, hE, hR', hF.set _ _, by simp only [VR, VRL]; exact ⟨#[], rfl, rfl⟩⟩
  · split at h <;> try (cases h; done)
    · cases h
      simp only [VR] at h1
      obtain ⟨A, rfl⟩ := h1
      exact nil A 0 rfl rfl rfl
    · cases h
      simp only [VR] at h1
      obtain ⟨A, cap, ys, rfl, _⟩ := h1
      exact nil A cap rfl rfl rfl
    · cases h
      simp only [VR] at h1
      exact nil _ _ h1 rfl rfl
end Go.Proofs.YtpgipdajinkdgaaGreatA
