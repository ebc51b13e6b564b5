
/- strata.Strata as a plain function: no list if something is wrong; else, for each component's number, the names that have it. -/
import Derived.Test.YtfkilcegdajdcaaGStrata
import Derived.Test.YtfkilcegdajdcaaCoreD
import Derived.Test.YtfkilcegdajdcaaCoreL
import Derived.Test.YtfkilcegdajdcaaCoreN
namespace Go.Proofs.Ytfkilcegdajdcaa.Core
open Go.RowKit Go.Proofs.Ytfkilcegdajdcaa.PZ Go.Proofs.YtfkilcegdajdcaaW.PrintWords Go.Proofs.YtfkilcegdajdcaaW.PrintLast Go.Proofs.YtfkilcegdajdcaaW.PrintMore
set_option linter.unusedVariables false
set_option linter.unusedSectionVars false
theorem hits (N : Nat) (f : Nat → Nat) : ∀ (L : List Nat), L.Nodup → (∀ v ∈ L, ∃ j, j < N ∧ f j = v) → L.length ≤ N := by
  induction N with
  | zero =>
    intro L _ h
    cases L with
    | nil => exact Nat.le_refl _
    | cons v t => obtain ⟨j, hj, _⟩ := h v (by simp); omega
  | succ N ih =>
    intro L hn h
    by_cases hm : f N ∈ L
    · have h1 := ih (L.erase (f N)) (hn.erase _) (fun v hv => by
        obtain ⟨hne, hv⟩ := (hn.mem_erase_iff).1 hv
        obtain ⟨j, hj, e⟩ := h v hv
        refine ⟨j, ?_, e⟩
        rcases Nat.lt_or_ge j N with h1 | h1
        · exact h1
        · obtain rfl : j = N := by omega
          exact absurd e.symm hne)
      rw [List.length_erase_of_mem hm] at h1
      omega
    · have := ih L hn (fun v hv => by
        obtain ⟨j, hj, e⟩ := h v hv
        refine ⟨j, ?_, e⟩
        rcases Nat.lt_or_ge j N with h1 | h1
        · exact h1
        · obtain rfl : j = N := by omega
          exact absurd (e ▸ hv) hm)
      omega
theorem Good.lt {N : Nat} {E : Nat → Nat → Prop} {f : Nat → Int} (h : Good N E f) {i : Nat} (hi : i < N) : f i < N := by
  have h0 := h.nn i hi
  have := hits N (fun j => (f j).toNat) (List.range ((f i).toNat + 1)) List.nodup_range (fun v hv => by
    rw [List.mem_range] at hv
    by_cases e : (v : Int) = f i
    · exact ⟨i, hi, by show (f i).toNat = v; omega⟩
    · obtain ⟨j, hj, hf⟩ := h.full i hi v (by omega) (by omega)
      exact ⟨j, hj, by show (f j).toNat = v; omega⟩)
  rw [List.length_range] at this
  omega
theorem wh_at {ns : List ByteArray} (hu : Ord.Up Ord.ltS ns) (of : List Int) {p : Nat} (hp : p < ns.length) : ∀ n, n ≤ ns.length → p < n → wh ns of n ns[p] = rd of p
  | 0, _, h => by omega
  | n + 1, hn, h => by
    simp only [wh]
    rw [rdS_at ns n (by omega)]
    by_cases e : n = p
    · subst e; rw [if_pos rfl]
    · rw [if_neg (fun h' => e (up_inj hu (by omega) hp h')), wh_at hu of hp n (by omega) (by omega)]
theorem wh_pos {ns : List ByteArray} (hu : Ord.Up Ord.ltS ns) (of : List Int) {s : ByteArray} (h : s ∈ ns) : wh ns of ns.length s = rd of (pos ns s) := by
  have := wh_at hu of (pos_lt h) ns.length (Nat.le_refl _) (pos_lt h)
  rwa [pos_at h] at this
theorem marks_eq (ns : List ByteArray) (of : List Int) (n : Nat) (hp : ByteArray) (fold : Int) (lt : Bool) : ∀ (l : List (S46 × ByteArray)) (st : Bool × Bool), marks ns of n hp fold lt st l =
    (st.1 || l.any (fun q => decide (wh ns of n q.2 = wh ns of n hp) && (q.1.f0 == 2 || decide (fold > 0))), st.2 || l.any (fun q => decide (wh ns of n q.2 = wh ns of n hp) && lt))
  | [], st => by simp [marks]
  | q :: t, st => by
    have := marks_eq ns of n hp fold lt t (PZ.mark ns of n hp fold lt st q)
    simp only [marks, List.foldl_cons] at this ⊢
    rw [this]
    unfold PZ.mark
    by_cases e : wh ns of n q.2 = wh ns of n hp
    · simp [e, Bool.or_assoc]
    · simp [e]
def badR (ns : List ByteArray) (of : List Int) (r : S39) : Bool := (allU r.f2).any fun q => decide (rd of (pos ns q.2) = rd of (pos ns r.f0.f0)) && (q.1.f0 == 2 || decide (r.f1 > 0))
def cycR (ns : List ByteArray) (of : List Int) (r : S39) : Bool := (allU r.f2).any fun q => decide (rd of (pos ns q.2) = rd of (pos ns r.f0.f0)) && r.f2.any isLet
def listed (ns : List ByteArray) (l : List Int) : List ByteArray := l.map fun i => rdOf ByteArray.empty ns i
def lists (ns : List ByteArray) (of : List Int) : List (List ByteArray) := (rows of (gr of of.length) of.length).map (listed ns)
section
variable (a : ByteArray) (rs : List S39) (l2 : List S43) (h : Small rs) (of : List Int) (hok : Ok (names a rs).length (Edge (names a rs).length (needs (names a rs) rs)) of) (hsz : ∀ s ∈ names a rs, s.size ≤ 9223372036854775807)
include h hok
theorem l3_ev (L : List (List Int)) (hL : L.length ≤ 1001) (c : Nat) (hc : c < L.length) (hin : ∀ y ∈ L[c], 0 ≤ y ∧ y < (names a rs).length) (hl : L[c].length ≤ 1000) (out : List (List ByteArray)) (ho : out.length ≤ 1001) (r : List (List ByteArray) × Int)
    (cont : Ev (fun k => strata_Strata.l2 k (names a rs) (out ++ [listed (names a rs) L[c]]) L L.length (c + 1 : Nat)) r) (d : Nat) : ∀ n : Nat, n ≤ L[c].length → L[c].length - n = d →
    Ev (fun k => strata_Strata.l3 k (names a rs) out (listed (names a rs) (L[c].take n)) L L.length c L[c] L[c].length n) r := by
  induction d with
  | zero =>
    intro n hn hd
    refine Ev.step (fun k => ?_) cont
    simp only [strata_Strata.l3]
    rw [if_neg (by omega), if_pos (by omega), up1 c (by omega), List.take_of_length_le (by omega)]
  | succ d ih =>
    intro n hn hd
    have hl' : n < L[c].length := by omega
    obtain ⟨y0, y1⟩ := hin _ (List.getElem_mem hl')
    refine Ev.step (fun k => ?_) (ih (n + 1) (by omega) (by omega))
    simp only [strata_Strata.l3]
    have hlen : (listed (names a rs) (L[c].take n)).length ≤ 1000 := by simp [listed]; omega
    rw [if_pos (by omega), if_pos (by omega), if_pos (by omega), rd_at L[c] n hl', if_pos y0, if_pos y1, if_pos (by omega), up1 n (by omega)]
    have : listed (names a rs) (L[c].take n) ++ [rdOf ByteArray.empty (names a rs) L[c][n]] = listed (names a rs) (L[c].take (n + 1)) := by
      unfold listed; rw [List.take_succ_eq_append_getElem hl', List.map_append]; rfl
    rw [this]
theorem l2_ev (L : List (List Int)) (hL : L.length ≤ 1001) (hin : ∀ l ∈ L, (∀ y ∈ l, 0 ≤ y ∧ y < (names a rs).length) ∧ l.length ≤ 1000) (d : Nat) : ∀ c : Nat, c ≤ L.length → L.length - c = d →
    Ev (fun k => strata_Strata.l2 k (names a rs) ((L.take c).map (listed (names a rs))) L L.length c) (L.map (listed (names a rs)), 0) := by
  induction d with
  | zero =>
    intro c hc hd
    refine Ev.step (f := fun _ => some (L.map (listed (names a rs)), 0)) (fun k => ?_) (Ev.now _)
    simp only [strata_Strata.l2]
    rw [if_neg (by omega), List.take_of_length_le (by omega)]
  | succ d ih =>
    intro c hc hd
    have hl : c < L.length := by omega
    have hr : rd_L7 L c = L[c] := by unfold rd_L7; rw [Int.toNat_natCast, getD_at _ _ _ hl]
    have hi := hin L[c] (List.getElem_mem hl)
    refine Ev.step (f := fun k => strata_Strata.l3 k (names a rs) ((L.take c).map (listed (names a rs))) (listed (names a rs) (L[c].take 0)) L L.length c L[c] L[c].length 0) (fun k => ?_) ?_
    · simp only [strata_Strata.l2]
      rw [if_pos (by omega), if_pos (by omega), if_pos (by omega), hr]
      rfl
    · refine l3_ev a rs h of hok L hL c hl hi.1 hi.2 _ (by simp; omega) _ ?_ _ 0 (by omega) rfl
      have := ih (c + 1) (by omega) (by omega)
      rwa [List.take_succ_eq_append_getElem hl, List.map_append] at this
def res (ns : List ByteArray) (of : List Int) (bad cyc : Bool) : List (List ByteArray) × Int := if bad = true then ([], 8) else if cyc = true then ([], 9) else (lists ns of, 0)
theorem tail_ev (bad cyc : Bool) (p q : Int) : Ev (fun k => strata_Strata.l1 k (names a rs) of rs rs.length rs.length p q bad cyc) (res (names a rs) of bad cyc) := by
  have hn := names_len h a
  cases bad with
  | true => exact Ev.step (f := fun _ => some ([], 8)) (fun k => by simp only [strata_Strata.l1]; rw [if_neg (by omega), if_pos trivial]) (Ev.now _)
  | false =>
    cases cyc with
    | true => exact Ev.step (f := fun _ => some ([], 9)) (fun k => by simp only [strata_Strata.l1]; rw [if_neg (by omega), if_neg (by simp), if_pos trivial]) (Ev.now _)
    | false =>
      obtain ⟨hlen, hg⟩ := hok
      have hgl := gr_le of of.length
      refine Ev.step (f := fun k => (comps_Lists.f k of).bind fun t => strata_Strata.l2 k (names a rs) [] t t.length 0) (fun k => by simp only [strata_Strata.l1]; rw [if_neg (by omega), if_neg (by simp), if_neg (by simp)]) ?_
      refine Ev.bind (f := fun k t => strata_Strata.l2 k (names a rs) [] t t.length 0) (Tell_ev of (by omega)) ?_
      refine l2_ev a rs h of ⟨hlen, hg⟩ (rows of (gr of of.length) of.length) (by rw [rows_len]; exact hgl) (fun l hl => ?_) _ 0 (by omega) rfl
      obtain ⟨k, hk, rfl⟩ := List.mem_map.1 hl
      refine ⟨fun y hy => ?_, by have := ix_len of k of.length; omega⟩
      have := (ix_all of k of.length).1 y hy
      rw [hlen] at this
      exact ⟨this.1, this.2.1⟩
include hsz
theorem l1_ev (d : Nat) : ∀ (n : Nat) (bad cyc : Bool) (p q : Int), n ≤ rs.length → rs.length - n = d → Ev (fun k => strata_Strata.l1 k (names a rs) of rs rs.length n p q bad cyc) (res (names a rs) of (bad || (rs.drop n).any (badR (names a rs) of)) (cyc || (rs.drop n).any (cycR (names a rs) of))) := by
  have hu := names_up a rs
  have hN := h.n
  induction d with
  | zero =>
    intro n bad cyc p q hn hd
    obtain rfl : n = rs.length := by omega
    rw [List.drop_length]
    simpa using tail_ev a rs h of hok bad cyc p q
  | succ d ih =>
    intro n bad cyc p q hn hd
    have hl : n < rs.length := by omega
    have hr := rd39_at rs n hl
    have hw := up1 n (by omega)
    have hm : rs[n] ∈ rs := List.getElem_mem hl
    have hin : rs[n].f0.f0 ∈ names a rs := (names_mem a rs _).2 (.inr ⟨_, hm, .inl rfl⟩)
    have hall : ∀ z ∈ allU rs[n].f2, z.2 ∈ names a rs := fun z hz => (names_mem a rs _).2 (.inr ⟨_, hm, .inr ⟨z.1, ((allU_mem _ _).1 hz).1, ((allU_mem _ _).1 hz).2⟩⟩)
    have hwh : ∀ z ∈ allU rs[n].f2, decide (wh (names a rs) of (names a rs).length z.2 = wh (names a rs) of (names a rs).length rs[n].f0.f0) = decide (rd of (pos (names a rs) z.2) = rd of (pos (names a rs) rs[n].f0.f0)) := fun z hz => by rw [wh_pos hu of (hall z hz), wh_pos hu of hin]
    have hM : marks (names a rs) of (names a rs).length rs[n].f0.f0 rs[n].f1 (rs[n].f2.any isLet) (bad, cyc) (allU rs[n].f2) = (bad || badR (names a rs) of rs[n], cyc || cycR (names a rs) of rs[n]) := by
      rw [marks_eq]
      have anyc : ∀ (f g : S46 × ByteArray → Bool), (∀ z ∈ allU rs[n].f2, f z = g z) → (allU rs[n].f2).any f = (allU rs[n].f2).any g := fun f g hfg => by
        rw [Bool.eq_iff_iff, List.any_eq_true, List.any_eq_true]
        exact ⟨fun ⟨z, hz, e⟩ => ⟨z, hz, by rw [← hfg z hz]; exact e⟩, fun ⟨z, hz, e⟩ => ⟨z, hz, by rw [hfg z hz]; exact e⟩⟩
      unfold badR cycR
      rw [anyc _ _ (fun z hz => by rw [hwh z hz]), anyc (fun q => decide (wh (names a rs) of (names a rs).length q.2 = wh (names a rs) of (names a rs).length rs[n].f0.f0) && rs[n].f2.any isLet) _ (fun z hz => by rw [hwh z hz])]
    have hnx := ih (n + 1) (bad || badR (names a rs) of rs[n]) (cyc || cycR (names a rs) of rs[n]) p q (by omega) (by omega)
    rw [List.drop_eq_getElem_cons hl, List.any_cons, List.any_cons, ← Bool.or_assoc, ← Bool.or_assoc]
    refine Ev.step (f := fun k => (contains_let.f rs[n].f2).bind fun t => (each_Strata.f k rs[n].f0.f0 rs[n].f0.f1 rs[n].f1 rs[n].f2 (names a rs) of bad cyc t).bind fun b => strata_Strata.l1 k (names a rs) of rs rs.length (n + 1 : Nat) p q b.1 b.2) (fun k => ?_) ?_
    · simp only [strata_Strata.l1]
      rw [if_pos (by omega), if_pos (by omega), if_pos (by omega), hr, hw]
    · refine Ev.congr (f := fun k => (each_Strata.f k rs[n].f0.f0 rs[n].f0.f1 rs[n].f1 rs[n].f2 (names a rs) of bad cyc (rs[n].f2.any isLet)).bind fun b => strata_Strata.l1 k (names a rs) of rs rs.length (n + 1 : Nat) p q b.1 b.2) (fun k => by simp [contains_let.f]) ?_
      refine Ev.bind (f := fun k (b : Bool × Bool) => strata_Strata.l1 k (names a rs) of rs rs.length (n + 1 : Nat) p q b.1 b.2) (a := (bad || badR (names a rs) of rs[n], cyc || cycR (names a rs) of rs[n])) ?_ hnx
      unfold each_Strata.f
      refine Ev.bind (f := fun k (all : List (S46 × ByteArray)) => if (all.all fun q => decide (q.2.size ≤ 9223372036854775807)) = true then (if rs[n].f0.f0.size ≤ 9223372036854775807 then some (marks (names a rs) of (names a rs).length rs[n].f0.f0 rs[n].f1 (rs[n].f2.any isLet) (bad, cyc) all) else none) else none) (usesL_ev rs[n].f2 (fun x hx => by have := h.lit hm hx; omega)) ?_
      rw [← hM]
      simp only [if_pos (show ((allU rs[n].f2).all fun q => decide (q.2.size ≤ 9223372036854775807)) = true from List.all_eq_true.2 fun z hz => decide_eq_true (hsz _ (hall z hz))), if_pos (hsz _ hin)]
      exact Ev.now _
theorem l0_ev (d : Nat) : ∀ (n : Nat) (p : Int), n ≤ (names a rs).length → (names a rs).length - n = d → Ev (fun k => strata_Strata.l0 k (names a rs) of (names a rs) (names a rs).length n rs a l2 p 0) (res (names a rs) of (rs.any (badR (names a rs) of)) (rs.any (cycR (names a rs) of))) := by
  have hn' := names_len h a
  induction d with
  | zero =>
    intro n p hn hd
    have h1 := l1_ev a rs h of hok hsz _ 0 false false p 0 (by omega) rfl
    rw [List.drop_zero, Bool.false_or, Bool.false_or] at h1
    refine Ev.step (fun k => ?_) h1
    simp only [strata_Strata.l0]
    rw [if_neg (by omega)]
    rfl
  | succ d ih =>
    intro n p hn hd
    have hlen := hok.1
    refine Ev.step (fun k => ?_) (ih (n + 1) (rd of n) (by omega) (by omega))
    simp only [strata_Strata.l0]
    rw [if_pos (by omega), if_pos (by omega), if_pos (by omega), if_pos (by omega), up1 n (by omega)]
end
theorem wf_small {x : Int} (h0 : 0 ≤ x) (h1 : x < 1000) : (Lit.int .i64 x).wf = true := by
  simp only [Lit.wf, IntKind.min, IntKind.max, IntKind.signed, IntKind.bits]
  simp
  omega
structure Told (a : ByteArray) (rs : List S39) (of : List Int) (l : List (List ByteArray)) (e : Int) : Prop where
  ok : Ok (names a rs).length (Edge (names a rs).length (needs (names a rs) rs)) of
  res : (l, e) = res (names a rs) of (rs.any (badR (names a rs) of)) (rs.any (cycR (names a rs) of))
theorem Told.cases {a : ByteArray} {rs : List S39} {of : List Int} {l : List (List ByteArray)} {e : Int} (h : Told a rs of l e) : (e ≠ 0 ∧ l = []) ∨ (e = 0 ∧ l = lists (names a rs) of ∧ rs.any (badR (names a rs) of) = false ∧ rs.any (cycR (names a rs) of) = false) := by
  have h := h.res
  unfold Core.res at h
  cases hb : rs.any (badR (names a rs) of) with
  | true => rw [hb, if_pos rfl] at h; injection h with h1 h2; exact .inl ⟨by omega, h1⟩
  | false =>
    rw [hb, if_neg (by simp)] at h
    cases hc : rs.any (cycR (names a rs) of) with
    | true => rw [hc, if_pos rfl] at h; injection h with h1 h2; exact .inl ⟨by omega, h1⟩
    | false => rw [hc, if_neg (by simp)] at h; injection h with h1 h2; exact .inr ⟨h2, h1, rfl, rfl⟩
theorem Told.bad {a : ByteArray} {rs : List S39} {of : List Int} {l : List (List ByteArray)} {e : Int} (h : Told a rs of l e) (h0 : e ≠ 0) : l = [] := by
  rcases h.cases with h | h
  · exact h.2
  · exact absurd h.1 h0
theorem Told.all {a : ByteArray} {rs : List S39} {of : List Int} {l : List (List ByteArray)} {e : Int} (h : Told a rs of l e) (h0 : e = 0) : l = lists (names a rs) of := by
  rcases h.cases with h | h
  · exact absurd h0 h.1
  · exact h.2.1
theorem Strata_ev (a : ByteArray) (rs : List S39) (l2 : List S43) (h : Small rs) (hsz : ∀ s ∈ names a rs, s.size ≤ 9223372036854775807) : ∃ of l e, Ev (fun k => strata_Strata.f k rs a l2) (l, e) ∧ Told a rs of l e := by
  have hn := names_len h a
  obtain ⟨of, h1, hok⟩ := Comps_ev (names a rs).length (by omega) (needs (names a rs) rs) (by have := needs_len (names a rs) h; omega)
  have h2 := l0_ev a rs l2 h of hok hsz _ 0 0 (by omega) rfl
  rw [show ((0 : Nat) : Int) = 0 from rfl] at h2
  obtain ⟨l, e, hle⟩ : ∃ l e, (l, e) = res (names a rs) of (rs.any (badR (names a rs) of)) (rs.any (cycR (names a rs) of)) := ⟨_, _, rfl⟩
  rw [← hle] at h2
  refine ⟨of, l, e, ?_, hok, hle⟩
  obtain ⟨D, hD⟩ : ∃ D, D = needs (names a rs) rs := ⟨_, rfl⟩
  have hND := Needs_ev a rs l2 h
  rw [← hD] at h1 hND
  have w1 : Ev (fun k => szN (strata_Names.f k rs a l2)) (names a rs) := by
    unfold szN
    refine Ev.bind (f := fun k (l : List ByteArray) => if (l.all fun s => decide (s.size ≤ 9223372036854775807)) = true then some l else none) (Names_ev a rs l2 h) ?_
    simp only [if_pos (show ((names a rs).all fun s => decide (s.size ≤ 9223372036854775807)) = true from List.all_eq_true.2 fun s hs => decide_eq_true (hsz s hs))]
    exact Ev.now _
  have w2 : Ev (fun k => wfI (comps_Comps.f k (names a rs).length D)) of := by
    unfold wfI
    refine Ev.bind (f := fun k (l : List Int) => if (l.all fun x => (Lit.int .i64 x).wf) = true then some l else none) h1 ?_
    have : (of.all fun x => (Lit.int .i64 x).wf) = true := by
      refine List.all_eq_true.2 fun x hx => ?_
      obtain ⟨i, hi, rfl⟩ := List.getElem_of_mem hx
      have hl := hok.1
      have p1 := hok.2.nn i (by omega)
      have p2 := hok.2.lt (i := i) (by omega)
      simp only [rd_at of i hi] at p1 p2
      exact wf_small p1 (by omega)
    simp only [if_pos this]
    exact Ev.now _
  obtain ⟨K1, w1⟩ := w1
  obtain ⟨K2, hND⟩ := hND
  obtain ⟨K3, w2⟩ := w2
  obtain ⟨K4, h2⟩ := h2
  refine ⟨K1 + K2 + K3 + K4, fun k hk => ?_⟩
  have e1 := w1 k (by omega)
  have e2 := hND k (by omega)
  have e3 := w2 k (by omega)
  have e4 := h2 k (by omega)
  unfold strata_Strata.f
  dsimp only at e1 e2 e3 e4 ⊢
  rw [e1, Option.bind_some, e2, Option.bind_some, e3, Option.bind_some]
  exact e4
end Go.Proofs.Ytfkilcegdajdcaa.Core
