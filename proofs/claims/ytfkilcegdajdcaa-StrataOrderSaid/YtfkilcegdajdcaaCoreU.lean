
/- What a program's literals use, and its names, as plain lists: what strata.Uses and strata.Names come to. -/
import Derived.Test.YtfkilcegdajdcaaGNames
import Derived.Test.YtfkilcegdajdcaaCoreA
namespace Go.Proofs.Ytfkilcegdajdcaa.Core
open Go.RowKit Go.Proofs.Ytfkilcegdajdcaa.PZ Go.Proofs.YtfkilcegdajdcaaW.PrintWords Go.Proofs.YtfkilcegdajdcaaW.PrintLast Go.Proofs.YtfkilcegdajdcaaW.PrintMore
set_option linter.unusedVariables false
theorem rd39_at (l : List S39) (n : Nat) (h : n < l.length) : rd_T39 l n = l[n] := by unfold rd_T39; rw [Int.toNat_natCast, getD_at _ _ _ h]
theorem rd46_at (l : List S46) (n : Nat) (h : n < l.length) : rd_T46 l n = l[n] := by unfold rd_T46; rw [Int.toNat_natCast, getD_at _ _ _ h]
theorem rd67_at (l : List S67) (n : Nat) (h : n < l.length) : rd_T67 l n = l[n] := by unfold rd_T67; rw [Int.toNat_natCast, getD_at _ _ _ h]
theorem rdS_at (l : List ByteArray) (n : Nat) (h : n < l.length) : rdOf ByteArray.empty l n = l[n] := by unfold rdOf; rw [Int.toNat_natCast, getD_at _ _ _ h]
theorem up1 (n : Nat) (h : n < 1000000) : wrap64 ((n : Int) + 1) = ((n + 1 : Nat) : Int) := by rw [wrap_id (by omega) (by omega)]; rfl
def labs (l : List S67) : List ByteArray := (l.filter fun q => decide (q.f1.toList ≠ [])).map S67.f1
def raws (x : S46) : List ByteArray := if x.f0 = 1 ∨ x.f0 = 2 then [x.f1.f0] else if x.f0 = 5 then labs x.f6 else []
def uses (x : S46) : List ByteArray := Ord.sorted (raws x)
theorem labs_len (l : List S67) : (labs l).length ≤ l.length := by unfold labs; rw [List.length_map]; exact List.length_filter_le _ _
theorem labs_skip (q : S67) (l : List S67) (h : q.f1.toList = []) : labs (q :: l) = labs l := by unfold labs; rw [List.filter_cons_of_neg (by simp [h])]
theorem labs_take (q : S67) (l : List S67) (h : q.f1.toList ≠ []) : labs (q :: l) = [q.f1] ++ labs l := by unfold labs; rw [List.filter_cons_of_pos (by simp [h])]; rfl
theorem raws_len (x : S46) : (raws x).length ≤ 1 + x.f6.length := by
  unfold raws
  split
  · simp
  · split
    · have := labs_len x.f6; omega
    · simp
theorem uses_len (x : S46) : (uses x).length ≤ 1 + x.f6.length := Nat.le_trans (Ord.nsort_len_le _) (raws_len x)
theorem sorted_ok (l : List ByteArray) (h : l.length ≤ 100000) : strata_sorted.f l = some (Ord.sorted l) := by unfold strata_sorted.f; rw [if_pos h]
theorem uses_loop (L : List S67) (hL : L.length ≤ 1000) (d : Nat) : ∀ (n : Nat) (out : List ByteArray), n ≤ L.length → L.length - n = d → out.length ≤ n →
    Ev (fun k => strata_Uses.l0 k out L L.length n) (Ord.sorted (out ++ labs (L.drop n))) := by
  induction d with
  | zero =>
    intro n out hn hd ho
    refine Ev.step (f := fun _ => some (Ord.sorted (out ++ labs (L.drop n)))) (fun k => ?_) (Ev.now _)
    simp only [strata_Uses.l0]
    rw [if_neg (by omega), sorted_ok out (by omega), List.drop_eq_nil_of_le (by omega)]
    simp [labs]
  | succ d ih =>
    intro n out hn hd ho
    have hl : n < L.length := by omega
    have hr := rd67_at L n hl
    have hw := up1 n (by omega)
    by_cases he : L[n].f1.toList = []
    · refine Ev.step (f := fun k => strata_Uses.l0 k out L L.length (n + 1 : Nat)) (fun k => ?_) ?_
      · simp only [strata_Uses.l0]
        rw [if_pos (by omega), if_pos (by omega), if_pos (by omega), hr, if_pos he, hw]
      · have := ih (n + 1) out (by omega) (by omega) (by omega)
        rw [List.drop_eq_getElem_cons hl, labs_skip _ _ he]
        exact this
    · refine Ev.step (f := fun k => strata_Uses.l0 k (out ++ [L[n].f1]) L L.length (n + 1 : Nat)) (fun k => ?_) ?_
      · simp only [strata_Uses.l0]
        rw [if_pos (by omega), if_pos (by omega), if_pos (by omega), hr, if_neg he, if_pos (by omega), hw]
      · have := ih (n + 1) (out ++ [L[n].f1]) (by omega) (by omega) (by simp; omega)
        rw [List.drop_eq_getElem_cons hl, labs_take _ _ he]
        rwa [List.append_assoc] at this
theorem uses_ev (x : S46) (h : x.f6.length ≤ 1000) : Ev (fun k => usesOf k x) (uses x) := by
  unfold uses raws
  by_cases h1 : x.f0 = 1
  · rw [if_pos (.inl h1)]
    refine Ev.congr (f := fun k => strata_Uses.j0 k [] x.f0 (x.f0 == 1) x.f0 x.f1.f0 x.f1.f1 x.f2 x.f3.f0 x.f3.f1.f0 x.f3.f1.f1 x.f3.f1.f2 x.f4.f0 x.f4.f1.f0 x.f4.f1.f1 x.f4.f1.f2 x.f5.f0 x.f5.f1.f0 x.f5.f1.f1 x.f5.f1.f2 x.f6) (fun k => by simp only [usesOf, strata_Uses.f]; rw [if_pos h1]) ?_
    refine Ev.step (f := fun _ => some (Ord.sorted [x.f1.f0])) (fun k => ?_) (Ev.now _)
    simp only [strata_Uses.j0, h1]
    simp [sorted_ok]
  · refine Ev.congr (f := fun k => strata_Uses.j0 k [] x.f0 (x.f0 == 2) x.f0 x.f1.f0 x.f1.f1 x.f2 x.f3.f0 x.f3.f1.f0 x.f3.f1.f1 x.f3.f1.f2 x.f4.f0 x.f4.f1.f0 x.f4.f1.f1 x.f4.f1.f2 x.f5.f0 x.f5.f1.f0 x.f5.f1.f1 x.f5.f1.f2 x.f6) (fun k => by simp only [usesOf, strata_Uses.f]; rw [if_neg h1]) ?_
    by_cases h2 : x.f0 = 2
    · rw [if_pos (.inr h2)]
      refine Ev.step (f := fun _ => some (Ord.sorted [x.f1.f0])) (fun k => ?_) (Ev.now _)
      simp only [strata_Uses.j0, h2]
      simp [sorted_ok]
    · rw [if_neg (by omega)]
      have hb : (x.f0 == 2) = false := beq_eq_false_iff_ne.mpr h2
      by_cases h5 : x.f0 = 5
      · rw [if_pos h5]
        refine Ev.step (f := fun k => strata_Uses.l0 k [] x.f6 x.f6.length 0) (fun k => ?_) ?_
        · simp only [strata_Uses.j0, hb]
          rw [if_neg (by simp), if_pos h5]
        · simpa using uses_loop x.f6 h _ 0 [] (by omega) rfl (by simp)
      · rw [if_neg h5]
        refine Ev.step (f := fun _ => some (Ord.sorted [])) (fun k => ?_) (Ev.now _)
        simp only [strata_Uses.j0, hb]
        rw [if_neg (by simp), if_neg h5]
        simp [sorted_ok]
def allU (b : List S46) : List (S46 × ByteArray) := b.flatMap fun x => (uses x).map fun s => (x, s)
theorem usesL_ev : ∀ (b : List S46), (∀ x ∈ b, x.f6.length ≤ 1000) → Ev (fun k => usesL k b) (allU b)
  | [], _ => Ev.congr (f := fun _ => some []) (fun k => by simp [usesL]) (Ev.now _)
  | x :: t, h => by
    refine Ev.congr (f := fun k => (usesOf k x).bind fun u => (usesL k t).bind fun r => some (u.map (fun s => (x, s)) ++ r)) (fun k => by simp [usesL]) ?_
    refine Ev.bind (f := fun k u => (usesL k t).bind fun r => some (u.map (fun s => (x, s)) ++ r)) (uses_ev x (h x (by simp))) ?_
    refine Ev.bind (f := fun k r => some ((uses x).map (fun s => (x, s)) ++ r)) (usesL_ev t (fun y hy => h y (by simp [hy]))) ?_
    simpa [allU] using Ev.now _
theorem allU_mem (b : List S46) (q : S46 × ByteArray) : q ∈ allU b ↔ q.1 ∈ b ∧ q.2 ∈ uses q.1 := by
  simp only [allU, List.mem_flatMap, List.mem_map]
  constructor
  · rintro ⟨x, hx, s, hs, rfl⟩; exact ⟨hx, hs⟩
  · rintro ⟨h1, h2⟩; exact ⟨q.1, h1, q.2, h2, rfl⟩
def totB (b : List S46) : Nat := (b.map fun x => x.f6.length).sum
def totR (rs : List S39) : Nat := (rs.map fun r => totB r.f2).sum
theorem allU_len : ∀ b : List S46, (allU b).length ≤ b.length + totB b
  | [] => by simp [allU]
  | x :: t => by
    have h1 := allU_len t
    have h2 := uses_len x
    simp only [allU, List.flatMap_cons, List.length_append, List.length_map, totB, List.map_cons, List.sum_cons, List.length_cons] at h1 ⊢
    omega
structure Small (rs : List S39) : Prop where
  n : rs.length ≤ 10
  b : ∀ r ∈ rs, r.f2.length ≤ 8
  t : totR rs ≤ 60
theorem tot_mem {x : S46} : ∀ {b : List S46}, x ∈ b → x.f6.length ≤ totB b
  | y :: t, h => by
    simp only [totB, List.map_cons, List.sum_cons]
    rcases List.mem_cons.1 h with rfl | h
    · omega
    · have := tot_mem h; unfold totB at this; omega
theorem totR_mem {r : S39} : ∀ {rs : List S39}, r ∈ rs → totB r.f2 ≤ totR rs
  | y :: t, h => by
    simp only [totR, List.map_cons, List.sum_cons]
    rcases List.mem_cons.1 h with rfl | h
    · omega
    · have := totR_mem h; unfold totR at this; omega
theorem Small.lit {rs : List S39} (h : Small rs) {r : S39} (hr : r ∈ rs) {x : S46} (hx : x ∈ r.f2) : x.f6.length ≤ 60 := by
  have h1 := tot_mem hx
  have h2 := totR_mem hr
  have h3 := h.t
  omega
theorem Small.all {rs : List S39} (h : Small rs) {r : S39} (hr : r ∈ rs) : (allU r.f2).length ≤ 68 := by
  have h1 := allU_len r.f2
  have h2 := totR_mem hr
  have h3 := h.t
  have h4 := h.b r hr
  omega
def names1 (r : S39) : List ByteArray := r.f0.f0 :: (allU r.f2).map Prod.snd
def rawN (a : ByteArray) (rs : List S39) : List ByteArray := a :: rs.flatMap names1
def names (a : ByteArray) (rs : List S39) : List ByteArray := Ord.sorted (rawN a rs)
theorem names1_len (rs : List S39) : (∀ r ∈ rs, r.f2.length ≤ 8) → (rs.flatMap names1).length ≤ 9 * rs.length + totR rs := by
  induction rs with
  | nil => intro; simp
  | cons r t ih =>
    intro h
    have h1 := ih (fun x hx => h x (by simp [hx]))
    have h2 := allU_len r.f2
    have h3 := h r (by simp)
    simp only [List.flatMap_cons, List.length_append, List.length_cons, names1, List.length_map, totR, List.map_cons, List.sum_cons] at h1 ⊢
    omega
theorem rawN_len {rs : List S39} (h : Small rs) (a : ByteArray) : (rawN a rs).length ≤ 151 := by
  have h1 := names1_len rs h.b
  have h2 := h.t
  have h3 := h.n
  simp only [rawN, List.length_cons]
  omega
theorem names_len {rs : List S39} (h : Small rs) (a : ByteArray) : (names a rs).length ≤ 151 := Nat.le_trans (Ord.nsort_len_le _) (rawN_len h a)
theorem names_up (a : ByteArray) (rs : List S39) : Ord.Up Ord.ltS (names a rs) := Ord.nsort_up Ord.linS _
theorem names_mem (a : ByteArray) (rs : List S39) (s : ByteArray) : s ∈ names a rs ↔ s = a ∨ ∃ r ∈ rs, s = r.f0.f0 ∨ ∃ x ∈ r.f2, s ∈ uses x := by
  unfold names Ord.sorted
  rw [Ord.nsort_mem Ord.linS]
  simp only [rawN, names1, List.mem_cons, List.mem_flatMap, List.mem_map]
  constructor
  · rintro (h | ⟨r, hr, h | ⟨q, hq, rfl⟩⟩)
    · exact .inl h
    · exact .inr ⟨r, hr, .inl h⟩
    · exact .inr ⟨r, hr, .inr ⟨q.1, ((allU_mem _ _).1 hq).1, ((allU_mem _ _).1 hq).2⟩⟩
  · rintro (h | ⟨r, hr, h | ⟨x, hx, hs⟩⟩)
    · exact .inl h
    · exact .inr ⟨r, hr, .inl h⟩
    · exact .inr ⟨r, hr, .inr ⟨(x, s), (allU_mem _ _).2 ⟨hx, hs⟩, rfl⟩⟩
theorem eachN_ev (p : ByteArray) (l1 : List S43) (fold : Int) (b : List S46) (out : List ByteArray) (hb : ∀ x ∈ b, x.f6.length ≤ 1000) (hl : out.length + (allU b).length ≤ 100000) :
    Ev (fun k => each_Names.f k p l1 fold b out) (out ++ (allU b).map Prod.snd) := by
  unfold each_Names.f
  refine Ev.bind (f := fun k all => if out.length + all.length ≤ 100000 then some (out ++ all.map Prod.snd) else none) (usesL_ev b hb) ?_
  simp only [if_pos hl]
  exact Ev.now _
theorem names_loop (a : ByteArray) (rs : List S39) (h : Small rs) (d : Nat) : ∀ (n : Nat) (out : List ByteArray), n ≤ rs.length → rs.length - n = d → out.length ≤ 1 + 69 * n →
    Ev (fun k => strata_Names.l0 k rs rs.length n out) (Ord.sorted (out ++ (rs.drop n).flatMap names1)) := by
  have hN := h.n
  induction d with
  | zero =>
    intro n out hn hd ho
    refine Ev.step (f := fun _ => some (Ord.sorted (out ++ (rs.drop n).flatMap names1))) (fun k => ?_) (Ev.now _)
    simp only [strata_Names.l0]
    rw [if_neg (by omega), sorted_ok out (by omega), List.drop_eq_nil_of_le (by omega)]
    simp
  | succ d ih =>
    intro n out hn hd ho
    have hl : n < rs.length := by omega
    have hr := rd39_at rs n hl
    have hw := up1 n (by omega)
    have hm : rs[n] ∈ rs := List.getElem_mem hl
    have hA := h.all hm
    refine Ev.step (f := fun k => (each_Names.f k rs[n].f0.f0 rs[n].f0.f1 rs[n].f1 rs[n].f2 (out ++ [rs[n].f0.f0])).bind fun t => strata_Names.l0 k rs rs.length (n + 1 : Nat) t) (fun k => ?_) ?_
    · simp only [strata_Names.l0]
      rw [if_pos (by omega), if_pos (by omega), if_pos (by omega), if_pos (by omega), hr, hw]
    · refine Ev.bind (f := fun k t => strata_Names.l0 k rs rs.length (n + 1 : Nat) t) (eachN_ev _ _ _ _ _ (fun x hx => by have := h.lit hm hx; omega) (by simp; omega)) ?_
      have := ih (n + 1) (out ++ [rs[n].f0.f0] ++ (allU rs[n].f2).map Prod.snd) (by omega) (by omega) (by simp; omega)
      rw [List.drop_eq_getElem_cons hl, List.flatMap_cons]
      simpa [names1] using this
theorem Names_ev (a : ByteArray) (rs : List S39) (l2 : List S43) (h : Small rs) : Ev (fun k => strata_Names.f k rs a l2) (names a rs) := by
  unfold strata_Names.f
  simpa [names, rawN] using names_loop a rs h _ 0 [a] (by omega) rfl (by simp)
end Go.Proofs.Ytfkilcegdajdcaa.Core
