/- A part of the proof of AdornAsks: functions of the program, run by the evaluator. -/

/- slices.SortFunc at pairs of numbers: what the library's contract says to the evaluator. -/
import Derived.Shelf.GgSortFunc.RowK
import Derived.Deep.Draws
import Derived.Test.YtigfnhbbfbnicaaAvV
import Derived.Test.YtigfnhbbfbnicaaAvS
namespace Go.Proofs.YtigfnhbbfbnicaaA
open Go Go.RowKit Go.Sort
set_option linter.all false
set_option linter.unusedSectionVars false
set_option linter.constructorNameAsVariable false
set_option linter.unusedVariables false
abbrev I2 := Int × Int
def encI2 (p : I2) : List Value := [.int .i64 p.1, .int .i64 p.2]
def pC (p : I2) : List AV := [.sc (.int .i64 p.1), .sc (.int .i64 p.2)]
def cmpJ (a b : Int) : Int := if a < b then -1 else if b < a then 1 else 0
def cmpP2 (x y : I2) : Int := if cmpJ x.1 y.1 = 0 then cmpJ x.2 y.2 else cmpJ x.1 y.1
def ltP2 (x y : I2) : Bool := decide (x.1 < y.1 ∨ (x.1 = y.1 ∧ x.2 < y.2))
theorem cmpJ_lt (a b : Int) : (cmpJ a b < 0) ↔ a < b := by unfold cmpJ; split <;> (try split) <;> omega
theorem cmpJ_eq (a b : Int) : cmpJ a b = 0 ↔ a = b := by unfold cmpJ; split <;> (try split) <;> omega
theorem lt_pair (x y : I2) : decide (cmpP2 x y < 0) = ltP2 x y := by
  unfold ltP2 cmpP2
  refine decide_eq_decide.2 ?_
  split
  · rename_i h
    rw [cmpJ_lt]
    have := (cmpJ_eq _ _).1 h
    constructor
    · intro h2; exact .inr ⟨this, h2⟩
    · rintro (h2 | h2)
      · omega
      · exact h2.2
  · rename_i h
    rw [cmpJ_lt]
    constructor
    · exact .inl
    · rintro (h2 | h2)
      · exact h2
      · exact absurd ((cmpJ_eq _ _).2 h2.1) h
theorem linP2 : Ord.Lin ltP2 where
  irr x := decide_eq_false (by omega)
  tr x y z h1 h2 := by
    have := of_decide_eq_true h1
    have := of_decide_eq_true h2
    exact decide_eq_true (by omega)
  tot x y h1 h2 := by
    have h1 := of_decide_eq_false h1
    have h2 := of_decide_eq_false h2
    cases x; cases y
    simp only at h1 h2
    congr 1 <;> omega
def sortI2 (l : List I2) : List I2 := Ord.isort ltP2 l
theorem sortI2_len (l : List I2) : (sortI2 l).length = l.length := (Ord.isort_perm l).length_eq
theorem sortI2_merge (l : List I2) : (l.mergeSort fun x y => !decide (cmpP2 y x < 0)) = sortI2 l := by
  refine List.Perm.eq_of_pairwise (le := fun x y => ltP2 y x = false) (fun a b _ _ h1 h2 => linP2.tot a b h2 h1) ?_ (Ord.isort_ord linP2 l) ((List.mergeSort_perm _ _).trans (Ord.isort_perm l).symm)
  have := List.pairwise_mergeSort (le := fun (x y : I2) => !decide (cmpP2 y x < 0)) (fun a b c h1 h2 => by
    simp only [lt_pair, Bool.not_eq_true'] at *
    cases h3 : ltP2 c a with
    | false => rfl
    | true =>
      cases h4 : ltP2 b c with
      | true => have := linP2.tr _ _ _ h4 h3; rw [h1] at this; cases this
      | false =>
        have := linP2.tot _ _ h2 h4
        subst this
        rw [h1] at h3; cases h3) (fun a b => by
    simp only [lt_pair]
    cases h : ltP2 b a with
    | false => rfl
    | true =>
      cases h2 : ltP2 a b with
      | false => rfl
      | true => have := linP2.tr _ _ _ h h2; rw [linP2.irr] at this; cases this) l
  exact this.imp fun h => by simpa [lt_pair] using h
def flatV (l : List I2) : List Value := (l.map encI2).flatten
theorem flatV_len : ∀ (l : List I2), (flatV l).length = l.length * 2
  | [] => rfl
  | p :: l => by
    have := flatV_len l
    unfold flatV at this ⊢
    simp only [List.map_cons, List.flatten_cons, List.length_append, List.length_cons, this]
    show 2 + _ = _
    omega
theorem flatV_get : ∀ (l : List I2) (t : Nat), t < l.length * 2 → (flatV l)[t]? = some (encI2 (l[t / 2]?.getD (0, 0)))[t % 2]!
  | [], t, h => absurd h (by simp)
  | p :: l, 0, _ => rfl
  | p :: l, 1, _ => rfl
  | p :: l, t + 2, h => by
    have := flatV_get l t (by simp only [List.length_cons] at h; omega)
    rw [show (t + 2) / 2 = t / 2 + 1 by omega, show (t + 2) % 2 = t % 2 by omega, List.getElem?_cons_succ, ← this]
    rfl
theorem flatK_list (l : List I2) : flatK encI2 2 l.toArray = (flatV l).toArray := by
  apply Array.ext_getElem?
  intro t
  rw [show (flatV l).toArray[t]? = (flatV l)[t]? by simp]
  by_cases ht : t < l.length * 2
  · rw [flatV_get l t ht, Array.getElem?_eq_getElem (by simpa using ht)]
    have := get_flatK encI2 2 l.toArray t (by simpa using ht)
    rw [getElem!_pos _ t (by simpa using ht)] at this
    rw [this, getElem!_pos l.toArray (t / 2) (by simp; omega)]
    rw [List.getElem?_eq_getElem (by omega)]
    simp
  · rw [Array.getElem?_eq_none (by simp; omega), List.getElem?_eq_none (by rw [flatV_len]; omega)]
theorem pC_flat : ∀ (l : List I2), (l.map pC).flatten = (flatV l).map AV.sc
  | [] => rfl
  | p :: l => by
    have := pC_flat l
    unfold flatV at this ⊢
    simp only [List.map_cons, List.flatten_cons, List.map_append, this]
    rfl
theorem vrl_sc {w : World} {Fb : Nat → Prop} {B : BM} : ∀ {us ys : List Value}, VRL w Fb B (us.map .sc) ys → ys = us
  | [], _, h => by simpa [VRL] using h
  | u :: us, _, h => by
    simp only [List.map_cons, VRL] at h
    obtain ⟨y, r, rfl, h1, h2⟩ := h
    simp only [VR] at h1
    rw [h1, vrl_sc h2]
def pairsOf : List AV → Option (List I2)
  | [] => some []
  | .sc (.int .i64 a) :: .sc (.int .i64 b) :: r => (pairsOf r).map ((a, b) :: ·)
  | _ => none
theorem pairsOf_map : ∀ (l : List I2), pairsOf (l.map pC).flatten = some l
  | [] => rfl
  | p :: l => by
    simp only [List.map_cons, List.flatten_cons, pC, List.cons_append, List.nil_append, pairsOf]
    rw [show pairsOf (l.map pC).flatten = some l from pairsOf_map l]; rfl
theorem pairsOf_eq : ∀ (n : Nat) {xs : List AV} {l : List I2}, xs.length ≤ n → pairsOf xs = some l → xs = (flatV l).map .sc
  | _, [], l, _, h => by simp only [pairsOf, Option.some.injEq] at h; rw [← h]; rfl
  | 0, x :: xs, l, hn, h => by simp at hn
  | n + 1, x :: xs, l, hn, h => by
    unfold pairsOf at h
    split at h
    · rename_i e; cases e
    · rename_i a b r e
      cases e
      obtain ⟨m, hm, rfl⟩ := Option.map_eq_some_iff.1 h
      rw [pairsOf_eq n (by simp only [List.length_cons] at hn; omega) hm]; rfl
    · cases h
section
variable {P : Program} {w : World} {F : Nat → Prop} {B : BM} {H : List Blk}
def putV (blk : Blk) (o n : Nat) (vs : List Value) : Blk := { blk with cells := blk.cells.take o ++ vs.map AV.sc ++ blk.cells.drop (o + n) }
theorem row_putV {b g ver o n : Nat} {c : Option Nat} {blk : Blk} {us : List Value} (hR : HR w F B H) (hB : B b = some (g, ver, c)) (hk : blkAt H b ver = some blk) (hl : (blk.cells.drop o).take n = us.map .sc) (hn : us.length = n) (hbr : BRelC w (Forb F B) B blk g c) :
    g < w.heap.size ∧ Holds id w g o us.toArray ∧ ∀ (vs : List Value) (q : Nat) (os : Array Obj), vs.length = n → (∀ v ∈ vs, v.oneCell' = true) →
      Ext w B (grow (putRow id (Sort.ahead w q) g o vs.toArray) os) B ∧ HR (grow (putRow id (Sort.ahead w q) g o vs.toArray) os) F B (H.set b (putV blk o n vs)) := by
  obtain ⟨cur, ys, rest, q1, q2, q3, q4, q5⟩ := hbr
  obtain ⟨hkk, hver, hkd⟩ := blkAt_some hk
  have hg := lt_of_at q1
  have hys : (ys.drop o).take n = us := by
    have h1 := VRL.take n (VRL.drop o q3)
    rw [hl] at h1
    exact vrl_sc h1
  have hlen : o + n ≤ ys.length ∨ n = 0 := by
    have := congrArg List.length hys
    rw [List.length_take, List.length_drop, hn] at this
    omega
  have hcl : cur.toList.length = cur.size := Array.length_toList
  have hcl2 := hcl
  rw [q2, List.length_append] at hcl2
  have hyl := q3.length
  refine ⟨hg, ?_, ?_⟩
  · intro j hj
    have hj' : j < us.length := by simpa using hj
    have e : cur[o + j]? = some us[j] := by
      have h3 := congrArg (fun l => l[j]?) hys
      simp only [List.getElem?_take, show j < n by omega, if_true, List.getElem?_drop] at h3
      rw [← Array.getElem?_toList, q2, List.getElem?_append_left (by omega), h3]
      simp [hj']
    refine ⟨?_, by simp [World.frozen?, q1]⟩
    rw [getElem!_pos _ j hj]
    simpa [World.cell?, q1] using e
  · intro m q os hm ho
    have hs : (putRow id (Sort.ahead w q) g o m.toArray).heap.size = w.heap.size := by rw [Go.Sort.size_putRow]; rfl
    have hi : ∀ k, k < w.heap.size → (grow (putRow id (Sort.ahead w q) g o m.toArray) os).heap[k]? = (putRow id (Sort.ahead w q) g o m.toArray).heap[k]? := by
      intro k hk
      show (_ ++ os)[k]? = _
      rw [Array.getElem?_append_left (by rw [hs]; exact hk)]
    have hsz : w.heap.size ≤ (grow (putRow id (Sort.ahead w q) g o m.toArray) os).heap.size := by
      show _ ≤ (_ ++ os).size
      rw [Array.size_append, hs]
      exact Nat.le_add_right _ _
    refine upd_grow (blk2 := putV blk o n m) hR hB hkk hver.symm rfl rfl rfl (Nat.le_add_right _ _) hsz (fun i h1 h2 => ?_) (fun hE => ?_)
    · rw [hi i h1]
      unfold putRow mapBlock
      simp only [Array.getElem?_modify, heap_ahead]
      rw [if_neg h2]
    · have hblk : (grow (putRow id (Sort.ahead w q) g o m.toArray) os).heap[g]? = some (.cells (putCells id o m.toArray cur) blk.elem (0, 0)) := by
        rw [hi g hg]
        unfold putRow mapBlock
        simp only [Array.getElem?_modify, heap_ahead, q1, if_true, Option.map_some]
        rfl
      have hpl : (putCells id o m.toArray cur).toList = (ys.take o ++ m ++ ys.drop (o + n)) ++ rest := by
        by_cases hn0 : o + n ≤ ys.length
        · rw [Ord.putCells_list _ _ _ _ (by omega), List.map_id, hm, q2, List.take_append_of_le_length (by omega), List.drop_append_of_le_length (by omega)]
          simp only [List.append_assoc]
        · have hn1 : n = 0 := by omega
          subst hn1
          obtain rfl := List.eq_nil_of_length_eq_zero hm
          have : putCells id o ([] : List Value).toArray cur = cur := by
            apply Array.ext_getElem?
            intro i
            simp only [putCells, Array.getElem?_mapIdx, List.size_toArray, List.length_nil, Nat.add_zero]
            cases cur[i]? with
            | none => rfl
            | some y => simp only [Option.map_some]; rw [if_neg (by omega)]
          rw [this, q2]
          simp
      have hsize : (putCells id o m.toArray cur).size = cur.size := by simp [putCells]
      simp only [BRel, putV, hkd]
      refine ⟨_, ys.take o ++ m ++ ys.drop (o + n), rest, hblk, hpl, ?_, ?_, fun h => by rw [hsize]; exact q5.1 h, q5.2⟩
      · exact (VRL.append (VRL.append (VRL.take o q3) (VRL.sc m)) (VRL.drop _ q3)).ext hE
      · intro u hu
        rcases List.mem_append.1 hu with hu | hu
        · rcases List.mem_append.1 hu with hu | hu
          · exact q4 u (List.mem_of_mem_take hu)
          · exact ho u hu
        · exact q4 u (List.mem_of_mem_drop hu)
end
theorem ext_grown {w w' : World} {B' : BM} (h : Ext w BM.none w' B') : ∃ q os, w' = grow (w.drewN q) os := by
  refine ⟨w'.drawn - w.drawn, w'.heap.extract w.heap.size w'.heap.size, ?_⟩
  have hd := h.drawn
  have hs := h.size
  have hh : w'.heap = w.heap ++ w'.heap.extract w.heap.size w'.heap.size := by
    apply Array.ext_getElem?
    intro i
    rw [Array.getElem?_append]
    split
    · rename_i hi
      exact (h.keep i hi (fun ⟨b, v, c, e⟩ => by cases e)).1
    · rename_i hi
      rw [Array.getElem?_extract]
      split
      · rw [show w.heap.size + (i - w.heap.size) = i by omega]
      · rw [Array.getElem?_eq_none (by omega)]
  have h1 := h.os
  have h2 := h.tape
  have h3 := h.output
  obtain ⟨a, b, c, d, e⟩ := w'
  obtain ⟨a', b', c', d', e'⟩ := w
  simp only at hh h1 h2 h3 hd hs ⊢
  unfold grow World.drewN
  simp only [World.mk.injEq]
  exact ⟨hh, h2, by omega, h1, h3⟩
def CmpC (P : Program) (g : FuncId) : Prop := ∀ (x y : I2) (W : World), Calls P g #[.agg (encI2 x).toArray, .agg (encI2 y).toArray] W fun e w' => e = .returned (.int .i64 (cmpP2 x y)) ∧ ∃ q os', w' = grow (W.drewN q) os'
theorem cmpC_of {P : Program} {C0 : Cfg} (hF : Fit P C0) {g : FuncId} {k : Nat} (h : ∀ x y : I2, ∃ H', arun P C0 k g [.agg (pC x), .agg (pC y)] [] = some (.sc (.int .i64 (cmpP2 x y)), H')) : CmpC P g := fun x y W => by
  obtain ⟨H', e⟩ := h x y
  refine ((right hF k _ _ _ _ _ e).2 W (fun _ => False) BM.none [.agg (encI2 x).toArray, .agg (encI2 y).toArray] (HR.empty (fun _ h => h.elim)) (fun b hb => absurd hb (Nat.not_lt_zero _)) ?_).mono ?_
  · simp only [VRL, VR, pC]
    exact ⟨_, _, rfl, ⟨_, rfl, _, _, rfl, rfl, _, _, rfl, rfl, rfl⟩, _, _, rfl, ⟨_, rfl, _, _, rfl, rfl, _, _, rfl, rfl, rfl⟩, rfl⟩
  · rintro e w' ⟨v, B', rfl, hE, _, _, hv⟩
    simp only [VR] at hv
    subst hv
    exact ⟨rfl, ext_grown hE⟩
def SortFC (P : Program) (f g : FuncId) : Prop :=
  (∀ (blk off cap : Nat) (l : List I2) (w : World), HoldsK encI2 2 w blk off l.toArray → blk < w.heap.size → l.length < 4611686018427387904 →
    Calls P f #[.slice (some ⟨blk, off, none⟩) l.length cap, .func (.func g) #[] #[]] w fun e w' => e = .returned (.tuple #[]) ∧ ∃ n os, w' = grow (putRow id (Sort.ahead w n) blk off (flatK encI2 2 (l.mergeSort fun x y => !decide (cmpP2 y x < 0)).toArray)) os) ∧
  (∀ (p : Option Addr) (cap : Nat) (w : World), Calls P f #[.slice p 0 cap, .func (.func g) #[] #[]] w fun e w' => e = .returned (.tuple #[]) ∧ w' = w)
def ownPairs (H : List Blk) : AV → Option (Nat × Nat × Nat × Nat × Blk × List I2)
  | .own b o len sz ver =>
    match blkAt H b ver with
    | some blk => match pairsOf ((blk.cells.drop (o * 2)).take (len * 2)) with
      | some l => if sz = 2 ∧ l.length = len ∧ len < 4611686018427387904 then some (b, o, len, ver, blk, l) else none
      | none => none
    | none => none
  | _ => none
def sortFPrim (g : FuncId) : List AV → List Blk → Option (AV × List Blk) := fun args H => match args with
  | [x, .fn h []] => if h = g then match ownPairs H x with
    | some (b, o, len, _, blk, l) => some (.tup [], H.set b (putV blk (o * 2) (len * 2) (flatV (sortI2 l))))
    | none => match x with
      | .z => some (.tup [], H)
      | .lst _ [] => some (.tup [], H)
      | .sc (.slice _ 0 _) => some (.tup [], H)
      | _ => none
    else none
  | _ => none
theorem ownPairs_some {H : List Blk} {x : AV} {b o len ver : Nat} {blk : Blk} {l : List I2} (h : ownPairs H x = some (b, o, len, ver, blk, l)) :
    x = .own b o len 2 ver ∧ blkAt H b ver = some blk ∧ (blk.cells.drop (o * 2)).take (len * 2) = (flatV l).map .sc ∧ l.length = len ∧ len < 4611686018427387904 := by
  unfold ownPairs at h
  split at h <;> try (cases h; done)
  split at h <;> try (cases h; done)
  rename_i hb
  split at h <;> try (cases h; done)
  rename_i hs
  split at h <;> try (cases h; done)
  rename_i hc
  cases h
  exact ⟨by rw [hc.1], hb, pairsOf_eq _ (Nat.le_refl _) hs, hc.2⟩
theorem sortF_ok {P : Program} {f g : FuncId} (hen : Enter P f) (hS : SortFC P f g) {args : List AV} {H H' : List Blk} {r : AV} (h : sortFPrim g args H = some (r, H')) : Enter P f ∧ CallOk P f args H r H' := by
  refine ⟨hen, fun w F B vs hR hF hv => ?_⟩
  unfold sortFPrim at h
  split at h <;> try (cases h; done)
  rename_i x hh
  split at h <;> try (cases h; done)
  rename_i hg0
  subst hg0
  simp only [VRL, VR] at hv
  obtain ⟨v, _, rfl, h1, _, _, rfl, ⟨c0, rfl, hc0⟩, rfl⟩ := hv
  obtain rfl := Array.toList_eq_nil_iff.1 hc0
  have nil : ∀ (A : Option Addr) (cap : Nat), v = .slice A 0 cap → r = .tup [] → H' = H → Calls P f [v, .func (.func hh) #[] #[]].toArray w fun e w' => ∃ v B', e = .returned v ∧ Ext w B w' B' ∧ HR w' F B' H' ∧ Full B' H' ∧ VR w' (Forb F B') B' r v := by
    rintro A cap rfl rfl rfl
    refine (hS.2 A cap w).mono ?_
    rintro e w' ⟨rfl, rfl⟩
    exact ⟨_, B, rfl, Ext.refl _ _, hR, hF, by simp only [VR, VRL]; exact ⟨#[], rfl, rfl⟩⟩
  split at h
  · rename_i b o len ver blk l hx
    cases h
    obtain ⟨rfl, hb, hs, hlen, hlim⟩ := ownPairs_some hx
    obtain ⟨g, cap, c, rfl, hB, hcap, _, hbr⟩ := own_at hR.weak h1 hb
    obtain ⟨hg, hH, hput⟩ := row_putV hR hB hb hs (by rw [flatV_len, hlen]) hbr
    have hc := hS.1 g (o * 2) cap l w (by unfold HoldsK; rw [flatK_list]; exact hH) hg (by omega)
    rw [hlen] at hc
    refine hc.mono ?_
    rintro e w' ⟨rfl, n, os, rfl⟩
    rw [sortI2_merge, flatK_list]
    obtain ⟨hE, hR'⟩ := hput (flatV (sortI2 l)) n os (by rw [flatV_len, sortI2_len, hlen]) (fun v hv => by
      unfold flatV at hv
      obtain ⟨q, hq, hv⟩ := List.mem_flatten.1 hv
      obtain ⟨p, _, rfl⟩ := List.mem_map.1 hq
      simp only [encI2, List.mem_cons, List.not_mem_nil, or_false] at hv
      rcases hv with rfl | rfl <;> rfl)
    exact ⟨_, B, rfl, hE, hR', hF.set _ _, by simp only [VR, VRL]; exact ⟨#[], rfl, rfl⟩⟩
  · split at h <;> try (cases h; done)
    · cases h
      simp only [VR] at h1
      obtain ⟨A, rfl⟩ := h1
      exact nil A 0 rfl rfl rfl
    · cases h
      simp only [VR] at h1
      obtain ⟨A, cap, ys, rfl, _⟩ := h1
      exact nil A cap rfl rfl rfl
    · cases h
      simp only [VR] at h1
      exact nil _ _ h1 rfl rfl
end Go.Proofs.YtigfnhbbfbnicaaA
