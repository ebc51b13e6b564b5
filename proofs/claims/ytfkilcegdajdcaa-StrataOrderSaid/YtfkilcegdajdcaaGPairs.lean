
/- strata.Needs' sort of pairs: the function value that compares two, and what slices.SortFunc leaves. -/
import Derived.Test.YtfkilcegdajdcaaPZx0
import Derived.Test.YtfkilcegdajdcaaPZx4
import Derived.Test.YtfkilcegdajdcaaLays1
import Derived.Test.YtfkilcegdajdcaaGSorted
import Derived.Shelf.SlSortCmp.NoneTotal
import Derived.Shelf.Abstract
namespace Go.Proofs.Ytfkilcegdajdcaa.PZ
open Go.RowKit Go.Proofs.YtfkilcegdajdcaaW.PrintWords Go.Proofs.YtfkilcegdajdcaaW.PrintLast Go.Proofs.YtfkilcegdajdcaaW.PrintMore
set_option linter.unusedVariables false
set_option linter.unusedSimpArgs false
def cmpI (a b : Int) : Int := if a < b then -1 else if b < a then 1 else 0
def cmpP (x y : S53) : Int := if cmpI x.f0 y.f0 = 0 then cmpI x.f1 y.f1 else cmpI x.f0 y.f0
theorem cmp_int (a b : Int) : cmp_Compare_int.f a b = some (cmpI a b) := by
  unfold cmp_Compare_int.f cmpI cmp_isNaN_int.f
  simp
  split
  · rfl
  · split <;> rfl
theorem cmp_pair (x y : S53) : slices_Compare_int_int.f 5 [x.f0, x.f1] [y.f0, y.f1] = some (cmpP x y) := by
  unfold cmpP
  by_cases h : cmpI x.f0 y.f0 = 0
  · by_cases h2 : cmpI x.f1 y.f1 = 0
    · simp [slices_Compare_int_int.f, slices_Compare_int_int.l0, cmp_int, rd, h, h2, wrap64]
    · simp [slices_Compare_int_int.f, slices_Compare_int_int.l0, cmp_int, rd, h, h2, wrap64]
  · simp [slices_Compare_int_int.f, slices_Compare_int_int.l0, cmp_int, rd, h, wrap64]
theorem pair_C {w : World} {g : Nat} {x : S53} (h : w.heap[g]? = some (.cells #[.int .i64 x.f0, .int .i64 x.f1] 53 (0, 0))) : Kd.C (Kd.int .i64) w (some ⟨g, 0, none⟩) 2 [x.f0, x.f1] := by
  refine ⟨rfl, by decide, fun _ => ⟨_, rfl, fun j p hp => ⟨[.int .i64 p], rfl, rfl, fun i u hu => ?_⟩⟩⟩
  have hi : i = 0 := by
    cases i with
    | zero => rfl
    | succ i => simp at hu
  subst hi
  have hadd : (⟨g, 0, none⟩ : Addr).add (j * 1 + 0) = ⟨g, j, none⟩ := by unfold Addr.add; split <;> simp_all
  rw [show (Kd.int IntKind.i64).sz = 1 from rfl, hadd, (blk_cell h j)]
  obtain rfl : Value.int .i64 p = u := by simpa using hu
  match j, hp with
  | 0, hp => obtain rfl := Option.some.inj hp; rfl
  | 1, hp => obtain rfl := Option.some.inj hp; rfl
def encP (x : S53) : List Value := [.int .i64 x.f0, .int .i64 x.f1]
set_option maxHeartbeats 4000000 in
theorem pair_closure (x y : S53) (W : World) : Calls Try.prog 31 #[.agg #[.int .i64 x.f0, .int .i64 x.f1], .agg #[.int .i64 y.f0, .int .i64 y.f1]] W fun e w' => e = .returned (.int .i64 (cmpP x y)) ∧ ∃ q os', w' = Go.Sort.grow (W.drewN q) os' := by
  have hcon : ∀ W', Kd.C (Kd.int .i64) W' (some ⟨W.heap.size, 0, none⟩) 2 [x.f0, x.f1] → Kd.C (Kd.int .i64) W' (some ⟨W.heap.size + 1, 0, none⟩) 2 [y.f0, y.f1] → Calls Try.prog 32 #[.slice (some ⟨W.heap.size, 0, none⟩) 2 2, .slice (some ⟨W.heap.size + 1, 0, none⟩) 2 2] W' fun e w' => e = .returned (.int .i64 (cmpP x y)) ∧ Drawn0 W' w' :=
    fun W' h1 h2 => slices_Compare_int_int.calls 5 _ 2 [x.f0, x.f1] _ 2 [y.f0, y.f1] (cmpP x y) W' h1 (Nat.le_refl _) h2 (Nat.le_refl _) (cmp_pair x y)
  have HC := Aside0.mk hcon
  clear hcon
  generalize hr : cmpP x y = r at HC ⊢
  clear hr
  have hw : ∀ n os, Calls Try.prog 32 #[.slice (some ⟨W.heap.size, 0, none⟩) 2 2, .slice (some ⟨W.heap.size + 1, 0, none⟩) 2 2] (Go.Sort.grow ((((W.alloc (.cells #[.int .i64 x.f0, .int .i64 x.f1] 53)).alloc (.cells #[.int .i64 y.f0, .int .i64 y.f1] 53))).drewN n) os) fun e w' => e = .returned (.int .i64 r) ∧ ∃ q os', w' = Go.Sort.grow ((Go.Sort.grow ((((W.alloc (.cells #[.int .i64 x.f0, .int .i64 x.f1] 53)).alloc (.cells #[.int .i64 y.f0, .int .i64 y.f1] 53))).drewN n) os).drewN q) os' := by
    intro n os
    have h1 : (Go.Sort.grow ((((W.alloc (.cells #[.int .i64 x.f0, .int .i64 x.f1] 53)).alloc (.cells #[.int .i64 y.f0, .int .i64 y.f1] 53))).drewN n) os).heap[W.heap.size]? = some (.cells #[.int .i64 x.f0, .int .i64 x.f1] 53 (0, 0)) := by
      show ((((W.heap.push _).push _) ++ os)[W.heap.size]?) = _
      rw [Array.getElem?_append_left (by simp <;> omega), Array.getElem?_push]
      simp [Array.getElem?_push]
    have h2 : (Go.Sort.grow ((((W.alloc (.cells #[.int .i64 x.f0, .int .i64 x.f1] 53)).alloc (.cells #[.int .i64 y.f0, .int .i64 y.f1] 53))).drewN n) os).heap[W.heap.size + 1]? = some (.cells #[.int .i64 y.f0, .int .i64 y.f1] 53 (0, 0)) := by
      show ((((W.heap.push _).push _) ++ os)[W.heap.size + 1]?) = _
      rw [Array.getElem?_append_left (by simp <;> omega), Array.getElem?_push]
      simp [Array.getElem?_push]
    refine (HC.out _ (pair_C h1) (pair_C h2)).mono ?_
    rintro e w' ⟨he, ⟨q, hq⟩⟩
    exact ⟨he, q, #[], by rw [hq, Go.Sort.grow_empty]⟩
  have HWW := Aside0.mk (show ((W.alloc (.cells #[.int .i64 x.f0, .int .i64 x.f1] 53)).alloc (.cells #[.int .i64 y.f0, .int .i64 y.f1] 53)) = Go.Sort.grow W #[.cells #[.int .i64 x.f0, .int .i64 x.f1] 53, .cells #[.int .i64 y.f0, .int .i64 y.f1] 53] by rw [Go.Sort.alloc_eq_grow, Go.Sort.alloc_eq_grow, Go.Sort.grow_grow]; rfl)
  have mixed : Try.prog.follows .mixedOrders = true := by kernel_rfl
  go_enter Try.func31, Try.ntmps31
  go_wp2
  generalize hwq : (W.alloc (.cells #[.int .i64 x.f0, .int .i64 x.f1] 53)).alloc (.cells #[.int .i64 y.f0, .int .i64 y.f1] 53) = wq at hw HWW ⊢
  clear hwq HC
  go_quiet_grown (first | (go_at_call 32; refine Calls.grown_of (hw _ _)))
  go_wp2
  go_ret
  exact ⟨rfl, nq, _ ++ osq, by rw [HWW.out]; exact Go.Sort.grow_grow (W.drewN nq) _ osq⟩
instance : Inhabited S53 := ⟨z53⟩
theorem wrote_putG {α : Type} [Inhabited α] (enc : α → Value) {w : World} {g : Nat} {cur : Array Value} {e : TypeId} (h : w.heap[g]? = some (.cells cur e (0, 0))) (n : Nat) (os : Array Obj) (d : Array α) :
    Wrote w (Go.Sort.grow (Go.Sort.putRow enc (Go.Sort.ahead w n) g 0 d) os) g (Go.Sort.putCells enc 0 d cur) e := by
  have hg := blk_lt h
  have hs : (Go.Sort.putRow enc (Go.Sort.ahead w n) g 0 d).heap.size = w.heap.size := by rw [Go.Sort.size_putRow]; rfl
  have hi : ∀ k, k < w.heap.size → (Go.Sort.grow (Go.Sort.putRow enc (Go.Sort.ahead w n) g 0 d) os).heap[k]? = (Go.Sort.putRow enc (Go.Sort.ahead w n) g 0 d).heap[k]? := by
    intro k hk
    show (_ ++ os)[k]? = _
    rw [Array.getElem?_append_left (by rw [hs]; exact hk)]
  have ho : ∀ k, k ≠ g → (Go.Sort.putRow enc (Go.Sort.ahead w n) g 0 d).heap[k]? = w.heap[k]? := by
    intro k hk
    unfold Go.Sort.putRow Go.Sort.mapBlock
    simp only [Array.getElem?_modify, Go.Sort.heap_ahead]
    rw [if_neg (fun h => hk h.symm)]
  have hsz : w.heap.size ≤ (Go.Sort.grow (Go.Sort.putRow enc (Go.Sort.ahead w n) g 0 d) os).heap.size := by
    show _ ≤ (_ ++ os).size
    rw [Array.size_append, hs]
    exact Nat.le_add_right _ _
  refine ⟨?_, ⟨hsz, fun k hk hn => ?_⟩, ⟨rfl, rfl, rfl, hsz, fun k hk => ?_⟩⟩
  · rw [hi g hg]
    unfold Go.Sort.putRow Go.Sort.mapBlock
    simp only [Array.getElem?_modify, Go.Sort.heap_ahead, h, if_true, Option.map_some]
    rfl
  · rw [hi k hk]; exact ho k hn
  · rw [hi k (by omega)]; exact ho k (by omega)
def flat (l : List S53) : List Value := (Go.Sort.flatK encP 2 l.toArray).toList
theorem flat_len (l : List S53) : (flat l).length = l.length * 2 := by simp [flat]
theorem flat_get (l : List S53) (t : Nat) (h : t < l.length * 2) (z : S53) : (flat l)[t]? = some (encP (l.getD (t / 2) z))[t % 2]! := by
  have hd : t / 2 < l.length := by omega
  unfold flat
  rw [Array.getElem?_toList, Array.getElem?_eq_getElem (by simpa using h)]
  have := Go.Sort.get_flatK encP 2 l.toArray t (by simpa using h)
  rw [getElem!_pos _ t (by simpa using h)] at this
  rw [this, getElem!_pos l.toArray (t / 2) (by simpa using hd)]
  simp [List.getD_eq_getElem?_getD, hd]
theorem reps_flat {w : World} {base : Nat} {ok : Nat → Prop} {l : List S53} {inner : List Value} (h : Reps (k53.M w base ok) 2 l inner) : inner = flat l := by
  obtain ⟨h1, h2⟩ := h
  apply List.ext_getElem?
  intro t
  by_cases ht : t < l.length * 2
  · have hd : t / 2 < l.length := by omega
    rw [flat_get l t ht z53]
    have h3 := k53_openM (h2 (t / 2) l[t / 2] (List.getElem?_eq_getElem hd))
    have h4 := congrArg (fun q => q[t % 2]?) h3
    have h5 : t % 2 < 2 := Nat.mod_lt _ (by decide)
    simp only [List.getElem?_take, h5, if_true, List.getElem?_drop] at h4
    rw [show t / 2 * 2 + t % 2 = t by omega] at h4
    rw [h4, List.getD_eq_getElem?_getD, List.getElem?_eq_getElem hd]
    show _ = some (encP l[t / 2])[t % 2]!
    rcases Nat.mod_two_eq_zero_or_one t with e | e
    · rw [e]; rfl
    · rw [e]; rfl
  · rw [List.getElem?_eq_none (by omega), List.getElem?_eq_none (by rw [flat_len]; omega)]
theorem flat_reps {w : World} {base : Nat} {ok : Nat → Prop} (l : List S53) : Reps (k53.M w base ok) 2 l (flat l) := by
  refine ⟨flat_len l, fun j p hp => ?_⟩
  obtain ⟨hj, rfl⟩ := List.getElem?_eq_some_iff.1 hp
  have : ((flat l).drop (j * 2)).take 2 = encP l[j] := by
    apply List.ext_getElem?
    intro t
    rw [List.getElem?_take]
    by_cases ht : t < 2
    · rw [if_pos ht, List.getElem?_drop, flat_get l _ (by omega) z53, show (j * 2 + t) / 2 = j by omega, show (j * 2 + t) % 2 = t by omega, List.getD_eq_getElem?_getD, List.getElem?_eq_getElem hj]
      show some (encP l[j])[t]! = _
      match t, ht with
      | 0, _ => rfl
      | 1, _ => rfl
    · rw [if_neg ht]
      exact (List.getElem?_eq_none (by show 2 ≤ t; omega)).symm
  rw [this]
  exact k53_mkM w base ok l[j]
theorem putCells_flat (l : List S53) (cur : Array Value) (h : l.length * 2 ≤ cur.size) : (Go.Sort.putCells id 0 (Go.Sort.flatK encP 2 l.toArray) cur).toList.take (l.length * 2) = flat l := by
  apply List.ext_getElem?
  intro t
  rw [List.getElem?_take]
  by_cases ht : t < l.length * 2
  · rw [if_pos ht]
    unfold flat Go.Sort.putCells
    rw [Array.getElem?_toList, Array.getElem?_toList, Array.getElem?_mapIdx, Array.getElem?_eq_getElem (by omega), Array.getElem?_eq_getElem (by simpa using ht)]
    simp only [Option.map_some, id]
    rw [if_pos ⟨Nat.zero_le _, by simp; omega⟩, getElem!_pos _ _ (by simpa using ht)]
    simp
  · rw [if_neg ht, List.getElem?_eq_none (by rw [flat_len]; omega)]
theorem holds_flat {w : World} {g : Nat} {cur : Array Value} {e : TypeId} (h : w.heap[g]? = some (.cells cur e (0, 0))) (l : List S53) (hs : cur.toList.take (l.length * 2) = flat l) : Go.Sort.HoldsK encP 2 w g 0 l.toArray := by
  intro t ht
  have ht' : t < l.length * 2 := by simpa using ht
  refine ⟨?_, blk_frozen h _⟩
  rw [blk_cell h (0 + t), Nat.zero_add]
  have h3 := congrArg (fun q => q[t]?) hs
  simp only [List.getElem?_take, ht', if_true] at h3
  rw [Array.getElem?_toList] at h3
  rw [h3]
  unfold flat
  rw [Array.getElem?_toList, Array.getElem?_eq_getElem (by simpa using ht'), getElem!_pos _ t (by simpa using ht')]
  rfl
def ltP (x y : S53) : Bool := decide (x.f0 < y.f0 ∨ (x.f0 = y.f0 ∧ x.f1 < y.f1))
theorem cmpI_lt (a b : Int) : (cmpI a b < 0) ↔ a < b := by unfold cmpI; split <;> (try split) <;> omega
theorem cmpI_eq (a b : Int) : cmpI a b = 0 ↔ a = b := by unfold cmpI; split <;> (try split) <;> omega
theorem lt_pair (x y : S53) : Go.Proofs.ltOf cmpP x y = ltP x y := by
  unfold Go.Proofs.ltOf ltP cmpP
  refine decide_eq_decide.2 ?_
  split
  · rename_i h
    rw [cmpI_lt]
    have := (cmpI_eq _ _).1 h
    constructor
    · intro h2; exact .inr ⟨this, h2⟩
    · rintro (h2 | h2)
      · omega
      · exact h2.2
  · rename_i h
    rw [cmpI_lt]
    constructor
    · exact .inl
    · rintro (h2 | h2)
      · exact h2
      · exact absurd ((cmpI_eq _ _).2 h2.1) h
theorem linP : Ord.Lin ltP where
  irr x := decide_eq_false (by omega)
  tr x y z h1 h2 := by
    have := of_decide_eq_true h1
    have := of_decide_eq_true h2
    exact decide_eq_true (by omega)
  tot x y h1 h2 := by
    have h1 := of_decide_eq_false h1
    have h2 := of_decide_eq_false h2
    cases x; cases y
    simp only at h1 h2
    congr 1 <;> omega
theorem swoP : Go.Sort.SWO (Go.Proofs.ltOf cmpP) where
  irrefl x := by rw [lt_pair]; exact linP.irr x
  trans x y z h1 h2 := by rw [lt_pair] at *; exact linP.tr x y z h1 h2
  ntrans x y z h1 h2 := by
    rw [lt_pair] at *
    have h1 := of_decide_eq_false h1
    have h2 := of_decide_eq_false h2
    exact decide_eq_false (by omega)
def insP (x : S53) : List S53 → List S53
  | [] => [x]
  | y :: t => if ltP y x = true then y :: insP x t else x :: y :: t
def sortP (l : List S53) : List S53 := l.foldr insP []
theorem insP_perm (x : S53) : ∀ l, (insP x l).Perm (x :: l)
  | [] => .refl _
  | y :: t => by
    unfold insP
    split
    · exact ((insP_perm x t).cons y).trans (List.Perm.swap x y t)
    · exact .refl _
theorem sortP_perm : ∀ l, (sortP l).Perm l
  | [] => .refl _
  | x :: l => (insP_perm x (sortP l)).trans ((sortP_perm l).cons x)
abbrev LeP (x y : S53) : Prop := ltP y x = false
theorem LeP.trans {x y z : S53} (h1 : LeP x y) (h2 : LeP y z) : LeP x z := by
  have h1 := of_decide_eq_false h1
  have h2 := of_decide_eq_false h2
  exact decide_eq_false (by omega)
theorem insP_sorted (x : S53) : ∀ l, l.Pairwise LeP → (insP x l).Pairwise LeP
  | [], _ => by simp [insP]
  | y :: t, h => by
    have h' := List.pairwise_cons.1 h
    unfold insP
    split
    · rename_i h1
      refine List.pairwise_cons.2 ⟨fun z hz => ?_, insP_sorted x t h'.2⟩
      rcases List.mem_cons.1 ((insP_perm x t).mem_iff.1 hz) with rfl | hz
      · cases hq : ltP z y with
        | false => exact hq
        | true => have := linP.tr _ _ _ h1 hq; rw [linP.irr] at this; cases this
      · exact h'.1 z hz
    · rename_i h1
      have h1 : LeP x y := by simpa using h1
      refine List.pairwise_cons.2 ⟨fun z hz => ?_, h⟩
      rcases List.mem_cons.1 hz with rfl | hz
      · exact h1
      · exact h1.trans (h'.1 z hz)
theorem sortP_sorted : ∀ l, (sortP l).Pairwise LeP
  | [] => List.Pairwise.nil
  | x :: l => insP_sorted x _ (sortP_sorted l)
theorem sorted_eq : ∀ (a b : List S53), a.Perm b → a.Pairwise LeP → b.Pairwise LeP → a = b
  | [], b, h, _, _ => (List.nil_perm.1 h).symm
  | x :: s, [], h, _, _ => by have := h.length_eq; simp at this
  | x :: s, y :: t, h, ha, hb => by
    have ha' := List.pairwise_cons.1 ha
    have hb' := List.pairwise_cons.1 hb
    have e : x = y := by
      have h1 : LeP y x ∨ x = y := by
        rcases List.mem_cons.1 (h.mem_iff.1 (List.mem_cons_self : x ∈ x :: s)) with e | e
        · exact .inr e
        · exact .inl (hb'.1 x e)
      have h2 : LeP x y ∨ x = y := by
        rcases List.mem_cons.1 (h.mem_iff.2 (List.mem_cons_self : y ∈ y :: t)) with e | e
        · exact .inr e.symm
        · exact .inl (ha'.1 y e)
      rcases h1 with h1 | h1
      · rcases h2 with h2 | h2
        · exact linP.tot x y h1 h2
        · exact h2
      · exact h1
    subst e
    rw [sorted_eq s t (List.perm_cons x |>.1 h) ha'.2 hb'.2]
theorem sortP_merge (l : List S53) : (l.mergeSort fun x y => !Go.Proofs.ltOf cmpP y x) = sortP l := by
  refine sorted_eq _ _ ((List.mergeSort_perm _ _).trans (sortP_perm l).symm) ?_ (sortP_sorted l)
  have := List.pairwise_mergeSort (le := fun (x y : S53) => !Go.Proofs.ltOf cmpP y x) (fun a b c h1 h2 => by
    simp only [lt_pair, Bool.not_eq_true'] at *
    exact LeP.trans h1 h2) (fun a b => by
    simp only [lt_pair]
    cases h : ltP b a with
    | false => rfl
    | true =>
      cases h2 : ltP a b with
      | false => rfl
      | true => have := linP.tr _ _ _ h h2; rw [linP.irr] at this; cases this) l
  exact this.imp fun h => by simpa [lt_pair] using h
def sort_pairs.f (l : List S53) : Option (List S53) := if l.length ≤ 100000 then some (sortP l) else none
theorem sortF_call (blk cap : Nat) (l : List S53) (w : World) (hH : Go.Sort.HoldsK encP 2 w blk 0 l.toArray) (hblk : blk < w.heap.size) (hsz : l.length < 4611686018427387904) :
    Calls Try.prog 30 #[.slice (some ⟨blk, 0, none⟩) l.length cap, .func (.func 31) #[] #[]] w fun e w' => e = .returned (.tuple #[]) ∧ ∃ n os, w' = Go.Sort.grow (Go.Sort.putRow id (Go.Sort.ahead w n) blk 0 (Go.Sort.flatK encP 2 (sortP l).toArray)) os := by
  have h := AnyQ.slices_SortFunc_total Lay.laysSortF 2 Try.isAgg53 Try.sizeOf53 encP (fun _ => rfl) (fun x v hv => by simp [encP] at hv; rcases hv with rfl | rfl <;> rfl) cmpP swoP 31 #[] blk 0 cap l.toArray w (enters_of Try.func31 (by kernel_rfl) rfl)
    (fun _ _ _ _ x y => pair_closure x y _) hH hblk (by simpa using hsz) (fun x y h1 h2 => linP.tot x y (by rw [← lt_pair]; exact h1) (by rw [← lt_pair]; exact h2))
  rw [show l.toArray.toList = l from rfl, sortP_merge] at h
  exact h
theorem sort_pairs.calls (P0_ : Nat → Prop) (u9000_ : Value) (l0 : List S53) (r : List S53) (w0 w : World) (hB : Below w0.heap.size w0 w) (ho0 : Kd.R k53 53 w w0.heap.size P0_ u9000_ l0) (h : sort_pairs.f l0 = some r) :
    Calls Try.prog 30 #[u9000_, .func (.func 31) #[] #[]] w fun e w' => e = .returned (.tuple #[]) ∧ Kd.R k53 53 w' w0.heap.size (fun k_ => (P0_ k_ ∨ w.heap.size ≤ k_)) u9000_ r ∧ Below w0.heap.size w0 w' ∧ Kept w w' (fun k_ => P0_ k_) := by
  have hlim0 : l0.length ≤ 100000 := by
    by_cases hq : l0.length ≤ 100000
    · exact hq
    · unfold sort_pairs.f at h; rw [if_neg hq] at h; cases h
  unfold sort_pairs.f at h
  rw [if_pos hlim0] at h
  obtain rfl := Option.some.inj h
  obtain ⟨hP, inner, ⟨hlen, hrow⟩, hreps⟩ := ho0
  rcases hrow with ⟨rfl, hn⟩ | ⟨g, cap, cur, rfl, hg, hh, hn, hc, hs, ht⟩
  · obtain rfl := List.eq_nil_of_length_eq_zero hn
    refine (AnyF.slices_SortFunc_none Lay.laysSortF none 0 (.func (.func 31) #[] #[]) w).mono ?_
    rintro e w' ⟨he, rfl⟩
    exact ⟨he, Kd.R_nil _ _ _ _ _, hB, Kept.refl _ _⟩
  · have hin := reps_flat hreps
    subst hin
    have e1 : (k53 : Kd S53).sz = 2 := rfl
    rw [e1] at ht hs
    have hsl := (sortP_perm l0).length_eq
    refine (sortF_call g cap l0 w (holds_flat hh l0 ht) (blk_lt hh) (by omega)).mono ?_
    rintro e w' ⟨he, n, os, hw⟩
    have hW : Wrote w w' g (Go.Sort.putCells id 0 (Go.Sort.flatK encP 2 (sortP l0).toArray) cur) 53 := hw ▸ wrote_putG id hh n os _
    refine ⟨he, ⟨fun k hk => .inl (hP k hk), flat (sortP l0), ⟨by rw [flat_len]; rfl, .inr ⟨g, cap, _, ?_, hg, hW.blk, by omega, hc, ?_, ?_⟩⟩, flat_reps _⟩, hB.trans (hW.below.mono hg), hW.kept.mono (fun k hk => hk ▸ hP g rfl)⟩
    · rw [hsl]
    · rw [e1, ← hs]; simp [Go.Sort.putCells]
    · rw [e1]; exact putCells_flat _ _ (by omega)
#print axioms sort_pairs.calls
end Go.Proofs.Ytfkilcegdajdcaa.PZ
