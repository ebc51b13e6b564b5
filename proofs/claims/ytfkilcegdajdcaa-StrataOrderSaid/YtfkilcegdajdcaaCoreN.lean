
/- Which name needs which one, as a plain list of pairs: what strata.Needs comes to. -/
import Derived.Test.YtfkilcegdajdcaaGNeeds
import Derived.Test.YtfkilcegdajdcaaCoreU
namespace Go.Proofs.Ytfkilcegdajdcaa.Core
open Go.RowKit Go.Proofs.Ytfkilcegdajdcaa.PZ Go.Proofs.YtfkilcegdajdcaaW.PrintWords Go.Proofs.YtfkilcegdajdcaaW.PrintLast Go.Proofs.YtfkilcegdajdcaaW.PrintMore
set_option linter.unusedVariables false
theorem less_ev (a b : ByteArray) : cmp_Less_string.f a b = some (Ord.ltS a b) := by
  unfold cmp_Less_string.f cmp_isNaN_string.f Ord.ltS Ord.ltL
  rw [ByteArray.toList_eq, ByteArray.toList_eq, bytesLess_eq]
  simp
theorem up_lt {l : List ByteArray} (h : Ord.Up Ord.ltS l) {i j : Nat} (hi : i < l.length) (hj : j < l.length) : Ord.ltS l[i] l[j] = true ↔ i < j := by
  constructor
  · intro e
    rcases Nat.lt_trichotomy i j with h1 | h1 | h1
    · exact h1
    · subst h1; rw [Ord.linS.irr] at e; cases e
    · have := List.pairwise_iff_getElem.1 h j i hj hi h1
      have := Ord.linS.tr _ _ _ e this
      rw [Ord.linS.irr] at this; cases this
  · intro e
    exact List.pairwise_iff_getElem.1 h i j hi hj e
theorem up_inj {l : List ByteArray} (h : Ord.Up Ord.ltS l) {i j : Nat} (hi : i < l.length) (hj : j < l.length) (e : l[i] = l[j]) : i = j := by
  rcases Nat.lt_trichotomy i j with h1 | h1 | h1
  · have := (up_lt h hi hj).2 h1; rw [e, Ord.linS.irr] at this; cases this
  · exact h1
  · have := (up_lt h hj hi).2 h1; rw [e, Ord.linS.irr] at this; cases this
theorem mid_eq (lo hi : Nat) (h1 : lo ≤ 1000) (h2 : hi ≤ 1000) : wrap64 ((IntKind.u64.wrap (wrap64 ((lo : Int) + (hi : Int)))) / 2) = (((lo + hi) / 2 : Nat) : Int) := by
  rw [wrap_id (x := (lo : Int) + hi) (by omega) (by omega)]
  have : IntKind.u64.wrap ((lo : Int) + hi) = (lo : Int) + hi := by
    simp only [IntKind.wrap, IntKind.bits, IntKind.signed]
    simp
    omega
  rw [this, wrap_id (by omega) (by omega)]
  omega
theorem search_loop (l : List ByteArray) (hl : l.length ≤ 1000) (hu : Ord.Up Ord.ltS l) (p : Nat) (hp : p < l.length) (d : Nat) : ∀ lo hi : Nat, lo ≤ p → p ≤ hi → hi ≤ l.length → hi - lo ≤ d →
    Ev (fun k => slices_BinarySearch_string_string.l0 k l l[p] l.length lo hi) ((p : Int), true) := by
  have fin : ∀ lo hi : Nat, lo ≤ p → p ≤ hi → ¬ lo < hi → Ev (fun k => slices_BinarySearch_string_string.l0 k l l[p] l.length lo hi) ((p : Int), true) := by
    intro lo hi h1 h2 h3
    obtain rfl : lo = p := by omega
    refine Ev.step (f := fun _ => some ((lo : Int), true)) (fun k => ?_) (Ev.now _)
    simp only [slices_BinarySearch_string_string.l0]
    rw [if_neg (by omega), if_pos (by omega), if_pos (by omega), if_pos (by omega), rdS_at l lo hp, if_pos rfl]
  induction d with
  | zero => intro lo hi h1 h2 h3 hd; exact fin lo hi h1 h2 (by omega)
  | succ d ih =>
    intro lo hi h1 h2 h3 hd
    by_cases h : lo < hi
    · have hm := mid_eq lo hi (by omega) (by omega)
      have hml : (lo + hi) / 2 < l.length := by omega
      have hr := rdS_at l ((lo + hi) / 2) hml
      have hw := up1 ((lo + hi) / 2) (by omega)
      by_cases hlt : (lo + hi) / 2 < p
      · refine Ev.step (fun k => ?_) (ih ((lo + hi) / 2 + 1) hi (by omega) h2 h3 (by omega))
        simp only [slices_BinarySearch_string_string.l0]
        rw [hm, if_pos (by omega), if_pos (by omega), if_pos (by omega), hr, less_ev, Option.bind_some, if_pos ((up_lt hu hml hp).2 hlt), hw]
      · refine Ev.step (fun k => ?_) (ih lo ((lo + hi) / 2) h1 (by omega) (by omega) (by omega))
        simp only [slices_BinarySearch_string_string.l0]
        rw [hm, if_pos (by omega), if_pos (by omega), if_pos (by omega), hr, less_ev, Option.bind_some, if_neg (fun e => hlt ((up_lt hu hml hp).1 e))]
    · exact fin lo hi h1 h2 h
def pos (l : List ByteArray) (s : ByteArray) : Nat := l.findIdx (fun x => decide (x = s))
theorem pos_lt {l : List ByteArray} {s : ByteArray} (h : s ∈ l) : pos l s < l.length := List.findIdx_lt_length_of_exists ⟨s, h, by simp⟩
theorem pos_at {l : List ByteArray} {s : ByteArray} (h : s ∈ l) : l[pos l s]'(pos_lt h) = s := by
  have := List.findIdx_getElem (xs := l) (p := fun x => decide (x = s)) (w := pos_lt h)
  exact of_decide_eq_true this
theorem search_ev {l : List ByteArray} (hl : l.length ≤ 1000) (hu : Ord.Up Ord.ltS l) {s : ByteArray} (h : s ∈ l) : Ev (fun k => slices_BinarySearch_string_string.f k l s) ((pos l s : Int), true) := by
  have := search_loop l hl hu (pos l s) (pos_lt h) _ 0 l.length (by omega) (Nat.le_of_lt (pos_lt h)) (Nat.le_refl _) (Nat.le_refl _)
  rw [pos_at h] at this
  exact this
def prs (ns : List ByteArray) (fr : Int) (l : List (S46 × ByteArray)) : List S53 := l.map fun q => ⟨fr, (pos ns q.2 : Int)⟩
theorem nd_ev (ns : List ByteArray) (hl : ns.length ≤ 1000) (hu : Ord.Up Ord.ltS ns) (fr : Int) : ∀ (l : List (S46 × ByteArray)), (∀ q ∈ l, q.2 ∈ ns) → Ev (fun k => nd k ns fr l) (prs ns fr l)
  | [], _ => Ev.congr (f := fun _ => some []) (fun k => by simp [nd]) (Ev.now _)
  | q :: t, h => by
    refine Ev.congr (f := fun k => (slices_BinarySearch_string_string.f k ns q.2).bind fun r => (nd k ns fr t).bind fun l => some (⟨fr, r.1⟩ :: l)) (fun k => by simp [nd]) ?_
    refine Ev.bind (f := fun k r => (nd k ns fr t).bind fun l => some (⟨fr, r.1⟩ :: l)) (search_ev hl hu (h q (by simp))) ?_
    refine Ev.bind (f := fun k l => some (⟨fr, (pos ns q.2 : Int)⟩ :: l)) (nd_ev ns hl hu fr t (fun z hz => h z (by simp [hz]))) ?_
    exact Ev.now _
theorem eachD_ev (p : ByteArray) (l1 : List S43) (fold : Int) (b : List S46) (ns : List ByteArray) (hl : ns.length ≤ 1000) (hu : Ord.Up Ord.ltS ns) (out : List S53) (fr : Int) (hb : ∀ x ∈ b, x.f6.length ≤ 1000) (hm : ∀ q ∈ allU b, q.2 ∈ ns) (ho : out.length + (allU b).length ≤ 100000) :
    Ev (fun k => each_Needs.f k p l1 fold b ns out fr) (out ++ prs ns fr (allU b)) := by
  unfold each_Needs.f
  refine Ev.bind (f := fun k all => (nd k ns fr all).bind fun L => if out.length + all.length ≤ 100000 then some (out ++ L) else none) (usesL_ev b hb) ?_
  refine Ev.bind (f := fun k L => if out.length + (allU b).length ≤ 100000 then some (out ++ L) else none) (nd_ev ns hl hu fr _ hm) ?_
  simp only [if_pos ho]
  exact Ev.now _
def needs1 (ns : List ByteArray) (r : S39) : List S53 := prs ns (pos ns r.f0.f0) (allU r.f2)
def rawD (ns : List ByteArray) (rs : List S39) : List S53 := rs.flatMap (needs1 ns)
def needs (ns : List ByteArray) (rs : List S39) : List S53 := Ord.nsort ltP (rawD ns rs)
theorem sort_compact_pairs (l : List S53) (h : l.length ≤ 100000) : ((sort_pairs.f l).bind fun t => (compact_pairs.f t).bind fun t' => some t') = some (Ord.nsort ltP l) := by
  have hl : (sortP l).length = l.length := (sortP_perm l).length_eq
  unfold sort_pairs.f
  rw [if_pos h, Option.bind_some]
  unfold compact_pairs.f
  rw [if_pos (by omega), Option.bind_some, Ord.compact_sorted linP _ (sortP_sorted l), Ord.nsort_congr linP (fun z => (sortP_perm l).mem_iff)]
theorem needs_loop (a : ByteArray) (rs : List S39) (h : Small rs) (d : Nat) : ∀ (n : Nat) (out : List S53), n ≤ rs.length → rs.length - n = d → out.length ≤ 68 * n →
    Ev (fun k => strata_Needs.l0 k rs rs.length n (names a rs) out) (Ord.nsort ltP (out ++ (rs.drop n).flatMap (needs1 (names a rs)))) := by
  have hN := h.n
  have hnl := names_len h a
  have hu := names_up a rs
  induction d with
  | zero =>
    intro n out hn hd ho
    refine Ev.step (f := fun _ => some (Ord.nsort ltP (out ++ (rs.drop n).flatMap (needs1 (names a rs))))) (fun k => ?_) (Ev.now _)
    simp only [strata_Needs.l0]
    rw [if_neg (by omega), sort_compact_pairs out (by omega), List.drop_eq_nil_of_le (by omega)]
    simp
  | succ d ih =>
    intro n out hn hd ho
    have hl : n < rs.length := by omega
    have hr := rd39_at rs n hl
    have hw := up1 n (by omega)
    have hm : rs[n] ∈ rs := List.getElem_mem hl
    have hA := h.all hm
    have hin : rs[n].f0.f0 ∈ names a rs := (names_mem a rs _).2 (.inr ⟨_, hm, .inl rfl⟩)
    refine Ev.step (f := fun k => (slices_BinarySearch_string_string.f k (names a rs) rs[n].f0.f0).bind fun b => (each_Needs.f k rs[n].f0.f0 rs[n].f0.f1 rs[n].f1 rs[n].f2 (names a rs) out b.1).bind fun t => strata_Needs.l0 k rs rs.length (n + 1 : Nat) (names a rs) t) (fun k => ?_) ?_
    · simp only [strata_Needs.l0]
      rw [if_pos (by omega), if_pos (by omega), if_pos (by omega), hr, hw]
    · refine Ev.bind (f := fun k (b : Int × Bool) => (each_Needs.f k rs[n].f0.f0 rs[n].f0.f1 rs[n].f1 rs[n].f2 (names a rs) out b.1).bind fun t => strata_Needs.l0 k rs rs.length (n + 1 : Nat) (names a rs) t) (search_ev (by omega) hu hin) ?_
      refine Ev.bind (f := fun k t => strata_Needs.l0 k rs rs.length (n + 1 : Nat) (names a rs) t) (eachD_ev _ _ _ _ _ (by omega) hu out _ (fun x hx => by have := h.lit hm hx; omega) (fun q hq => (names_mem a rs _).2 (.inr ⟨_, hm, .inr ⟨q.1, ((allU_mem _ _).1 hq).1, ((allU_mem _ _).1 hq).2⟩⟩)) (by omega)) ?_
      have := ih (n + 1) (out ++ prs (names a rs) (pos (names a rs) rs[n].f0.f0) (allU rs[n].f2)) (by omega) (by omega) (by simp [prs]; omega)
      rw [List.drop_eq_getElem_cons hl, List.flatMap_cons]
      rw [List.append_assoc] at this
      exact this
theorem Needs_ev (a : ByteArray) (rs : List S39) (l2 : List S43) (h : Small rs) : Ev (fun k => strata_Needs.f k rs a l2) (needs (names a rs) rs) := by
  unfold strata_Needs.f
  refine Ev.bind (f := fun k t => strata_Needs.l0 k rs rs.length 0 t []) (Names_ev a rs l2 h) ?_
  simpa [needs, rawD] using needs_loop a rs h _ 0 [] (by omega) rfl (by simp)
theorem needs_mem (ns : List ByteArray) (rs : List S39) (z : S53) : z ∈ needs ns rs ↔ ∃ r ∈ rs, ∃ x ∈ r.f2, ∃ s ∈ uses x, z = ⟨(pos ns r.f0.f0 : Int), (pos ns s : Int)⟩ := by
  unfold needs
  rw [Ord.nsort_mem linP]
  simp only [rawD, needs1, prs, List.mem_flatMap, List.mem_map]
  constructor
  · rintro ⟨r, hr, q, hq, rfl⟩
    exact ⟨r, hr, q.1, ((allU_mem _ _).1 hq).1, q.2, ((allU_mem _ _).1 hq).2, rfl⟩
  · rintro ⟨r, hr, x, hx, s, hs, rfl⟩
    exact ⟨r, hr, (x, s), (allU_mem _ _).2 ⟨hx, hs⟩, rfl⟩
theorem rawD_len (ns : List ByteArray) : ∀ (rs : List S39), (∀ r ∈ rs, (allU r.f2).length ≤ 68) → (rawD ns rs).length ≤ 68 * rs.length
  | [], _ => by simp [rawD]
  | r :: t, h => by
    have h1 := rawD_len ns t (fun x hx => h x (by simp [hx]))
    have h2 := h r (by simp)
    simp only [rawD, List.flatMap_cons, List.length_append, needs1, prs, List.length_map, List.length_cons] at h1 ⊢
    omega
theorem needs_len (ns : List ByteArray) {rs : List S39} (h : Small rs) : (needs ns rs).length ≤ 680 := by
  have h1 := Ord.nsort_len_le (lt := ltP) (rawD ns rs)
  have h2 := rawD_len ns rs (fun r hr => h.all hr)
  have h3 := h.n
  unfold needs
  omega
end Go.Proofs.Ytfkilcegdajdcaa.Core
