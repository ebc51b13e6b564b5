/- What a node reaches: the graph's plain mathematics, comps.seen and comps.lists as plain functions: what they come to. -/
import Derived.Test.YtfkilcegdajdcaaPZx1
import Derived.Test.YtfkilcegdajdcaaGSeen
import Derived.Test.YtfkilcegdajdcaaPZx2
namespace Go.Proofs.Ytfkilcegdajdcaa.Core
open Go.RowKit Go.Proofs.Ytfkilcegdajdcaa.PZ Go.Proofs.YtfkilcegdajdcaaW.PrintWords Go.Proofs.YtfkilcegdajdcaaW.PrintLast Go.Proofs.YtfkilcegdajdcaaW.PrintMore
set_option linter.unusedVariables false
theorem wrap_id {x : Int} (h1 : -9223372036854775808 ≤ x) (h2 : x ≤ 9223372036854775807) : wrap64 x = x := by unfold wrap64; omega
theorem getD_at {α : Type} (l : List α) (i : Nat) (z : α) (h : i < l.length) : l.getD i z = l[i] := by simp [List.getD, h]
inductive R (E : Nat → Nat → Prop) (a : Nat) : Nat → Prop
  | refl : R E a a
  | step {b c : Nat} : R E a b → E b c → R E a c
theorem R.trans {E : Nat → Nat → Prop} {a b c : Nat} (h : R E a b) (k : R E b c) : R E a c := by
  induction k with
  | refl => exact h
  | step _ e ih => exact ih.step e
theorem R.one {E : Nat → Nat → Prop} {a b : Nat} (h : E a b) : R E a b := R.refl.step h
theorem R.mono {E E' : Nat → Nat → Prop} (hE : ∀ a b, E a b → E' a b) {a b : Nat} (h : R E a b) : R E' a b := by
  induction h with
  | refl => exact .refl
  | step _ e ih => exact ih.step (hE _ _ e)
theorem R.flip {E : Nat → Nat → Prop} {a b : Nat} (h : R E a b) : R (fun x y => E y x) b a := by
  induction h with
  | refl => exact .refl
  | step _ e ih => exact (R.one (E := fun x y => E y x) e).trans ih
theorem R.closed {E : Nat → Nat → Prop} {p : Nat → Prop} (hp : ∀ a b, p a → E a b → p b) {a b : Nat} (h : R E a b) (ha : p a) : p b := by
  induction h with
  | refl => exact ha
  | step _ e ih => exact hp _ _ ih e
def Mk (out : List Bool) (i : Nat) : Prop := out.getD i false = true
theorem mk_set (out : List Bool) (j i : Nat) (hj : j < out.length) : Mk (out.set j true) i ↔ i = j ∨ Mk out i := by
  unfold Mk
  rw [List.getD_eq_getElem?_getD, List.getD_eq_getElem?_getD, List.getElem?_set]
  by_cases e : j = i
  · subst e
    simp [hj]
  · rw [if_neg e]
    constructor
    · exact .inr
    · rintro (h | h)
      · exact absurd h.symm e
      · exact h
theorem count_set (out : List Bool) (j : Nat) (hj : j < out.length) (h : ¬ Mk out j) : (out.set j true).count false + 1 = out.count false := by
  induction out generalizing j with
  | nil => simp at hj
  | cons b bs ih =>
    cases j with
    | zero =>
      have : b = false := by simpa [Mk] using h
      subst this
      simp
    | succ j =>
      have := ih j (by simpa using hj) (by simpa [Mk] using h)
      rw [List.set_cons_succ, List.count_cons, List.count_cons]
      omega
theorem rdOf_mk (out : List Bool) (x : Int) : rdOf false out x = true ↔ Mk out x.toNat := Iff.rfl
def EL (L : List (List Int)) (a b : Nat) : Prop := a < L.length ∧ (b : Int) ∈ L.getD a []
def InR (L : List (List Int)) : Prop := ∀ a, a < L.length → ∀ y ∈ L.getD a [], 0 ≤ y ∧ y < L.length
structure SInv (L : List (List Int)) (src : Nat) (out : List Bool) (left : List Int) (op : Nat → Prop) : Prop where
  len : out.length = L.length
  here : src < L.length ∧ Mk out src
  cnt : left.length + out.count false ≤ L.length
  inl : ∀ y ∈ left, 0 ≤ y ∧ y < L.length ∧ Mk out y.toNat
  sound : ∀ i, i < L.length → Mk out i → R (EL L) src i
  closed : ∀ i, i < L.length → Mk out i → (i : Int) ∈ left ∨ op i ∨ ∀ y ∈ L.getD i [], Mk out y.toNat
def SPost (L : List (List Int)) (src : Nat) (out : List Bool) : Prop := out.length = L.length ∧ ∀ i, i < L.length → (Mk out i ↔ R (EL L) src i)
theorem SInv.post {L : List (List Int)} {src : Nat} {out : List Bool} (h : SInv L src out [] (fun _ => False)) (hin : InR L) : SPost L src out := by
  refine ⟨h.len, fun i hi => ⟨h.sound i hi, fun hr => ?_⟩⟩
  have : i < L.length ∧ Mk out i := by
    refine R.closed (p := fun x => x < L.length ∧ Mk out x) ?_ hr h.here
    rintro a b ⟨ha, hm⟩ ⟨_, hb⟩
    rcases h.closed a ha hm with h1 | h1 | h1
    · simp at h1
    · exact h1.elim
    · have hr := hin a ha _ hb
      have := h1 _ hb
      simp at this
      exact ⟨by omega, this⟩
  exact this.2
theorem seen_inner (L : List (List Int)) (hL : L.length ≤ 1000) (hin : InR L) (src at_ : Nat) (hat : at_ < L.length) (hmany : (L.getD at_ []).length ≤ 100000) (M : Nat)
    (ih : ∀ out left, SInv L src out left (fun _ => False) → 2 * out.count false + left.length < M → ∃ r, Ev (fun k => comps_seen.l0 k L out left) r ∧ SPost L src r) (d : Nat) :
    ∀ j out left, j ≤ (L.getD at_ []).length → (L.getD at_ []).length - j = d → SInv L src out left (fun i => i = at_) → Mk out at_ → 2 * out.count false + left.length < M →
      (∀ i, i < j → Mk out ((L.getD at_ []).getD i 0).toNat) →
      ∃ r, Ev (fun k => comps_seen.l1 k L out left (L.getD at_ []) (L.getD at_ []).length j) r ∧ SPost L src r := by
  induction d with
  | zero =>
    intro j out left hj hd hI hm hM hp
    obtain ⟨r, hr, hP⟩ := ih out left ⟨hI.len, hI.here, hI.cnt, hI.inl, hI.sound, fun i hi hmi => by
      rcases hI.closed i hi hmi with h | h | h
      · exact .inl h
      · refine .inr (.inr ?_)
        subst h
        intro y hy
        obtain ⟨n, hn, rfl⟩ := List.getElem_of_mem hy
        have := hp n (by omega)
        rwa [getD_at _ _ _ hn] at this
      · exact .inr (.inr h)⟩ hM
    refine ⟨r, Ev.step (fun k => ?_) hr, hP⟩
    simp only [comps_seen.l1]
    rw [if_neg (by omega)]
  | succ d ihd =>
    intro j out left hj hd hI hm hM hp
    have hjl : j < (L.getD at_ []).length := by omega
    have he : rd (L.getD at_ []) (j : Int) = (L.getD at_ [])[j] := by unfold rd; rw [Int.toNat_natCast, getD_at _ _ _ hjl]
    obtain ⟨y0, y1⟩ := hin at_ hat _ (List.getElem_mem hjl)
    have hlen := hI.len
    have hcnt := hI.cnt
    have hw := Aside0.mk (show wrap64 ((j : Int) + 1) = ((j + 1 : Nat) : Int) by rw [wrap_id (by omega) (by omega)]; rfl)
    generalize hy : (L.getD at_ [])[j] = y at he y0 y1
    have hmem : y ∈ L.getD at_ [] := by rw [← hy]; exact List.getElem_mem hjl
    have hgd : (L.getD at_ []).getD j 0 = y := by rw [getD_at _ _ _ hjl]; exact hy
    by_cases hmy : Mk out y.toNat
    · obtain ⟨r, hr, hP⟩ := ihd (j + 1) out left (by omega) (by omega) hI hm hM (fun i hi => by
        by_cases e : i = j
        · subst e; rw [hgd]; exact hmy
        · exact hp i (by omega))
      refine ⟨r, Ev.step (fun k => ?_) hr, hP⟩
      simp only [comps_seen.l1]
      rw [if_pos (by omega), if_pos (by omega), if_pos (by omega), he, if_pos y0, if_pos (by omega), if_pos ((rdOf_mk _ _).2 hmy), hw.out]
    · have hyl : y.toNat < out.length := by omega
      have hc := count_set out y.toNat hyl hmy
      have hI' : SInv L src (out.set y.toNat true) (left ++ [y]) (fun i => i = at_) := by
        refine ⟨by rw [List.length_set]; exact hlen, ⟨hI.here.1, (mk_set _ _ _ hyl).2 (.inr hI.here.2)⟩, by rw [List.length_append, List.length_singleton]; omega, ?_, ?_, ?_⟩
        · intro z hz
          rcases List.mem_append.1 hz with hz | hz
          · obtain ⟨q1, q2, q3⟩ := hI.inl z hz
            exact ⟨q1, q2, (mk_set _ _ _ hyl).2 (.inr q3)⟩
          · rw [List.mem_singleton] at hz
            subst hz
            exact ⟨y0, y1, (mk_set _ _ _ hyl).2 (.inl rfl)⟩
        · intro i hi hmi
          rcases (mk_set _ _ _ hyl).1 hmi with e | e
          · have h1 := hI.sound at_ hat hm
            exact h1.step ⟨hat, by rw [e, Int.toNat_of_nonneg y0]; exact hmem⟩
          · exact hI.sound i hi e
        · intro i hi hmi
          rcases (mk_set _ _ _ hyl).1 hmi with e | e
          · exact .inl (by rw [e, Int.toNat_of_nonneg y0]; simp)
          · rcases hI.closed i hi e with h | h | h
            · exact .inl (List.mem_append_left _ h)
            · exact .inr (.inl h)
            · exact .inr (.inr fun z hz => (mk_set _ _ _ hyl).2 (.inr (h z hz)))
      have hp' : ∀ i, i < j + 1 → Mk (out.set y.toNat true) ((L.getD at_ []).getD i 0).toNat := by
        intro i hi
        refine (mk_set _ _ _ hyl).2 ?_
        by_cases e : i = j
        · subst e
          rw [hgd]
          exact .inl rfl
        · exact .inr (hp i (by omega))
      obtain ⟨r, hr, hP⟩ := ihd (j + 1) (out.set y.toNat true) (left ++ [y]) (by omega) (by omega) hI' ((mk_set _ _ _ hyl).2 (.inr hm)) (by rw [List.length_append, List.length_singleton]; omega) hp'
      refine ⟨r, Ev.step (fun k => ?_) hr, hP⟩
      simp only [comps_seen.l1]
      rw [if_pos (by omega), if_pos (by omega), if_pos (by omega), he, if_pos y0, if_pos (by omega), if_neg (fun h => hmy ((rdOf_mk _ _).1 h)), if_pos (by omega), hw.out]
theorem seen_outer (L : List (List Int)) (hL : L.length ≤ 1000) (hin : InR L) (hmany : ∀ a, a < L.length → (L.getD a []).length ≤ 100000) (src : Nat) (M : Nat) :
    ∀ out left, SInv L src out left (fun _ => False) → 2 * out.count false + left.length ≤ M → ∃ r, Ev (fun k => comps_seen.l0 k L out left) r ∧ SPost L src r := by
  induction M using Nat.strongRecOn with
  | _ M ih =>
    intro out left hI hM
    rcases List.eq_nil_or_concat left with rfl | ⟨ini, a, rfl⟩
    · exact ⟨out, Ev.step (f := fun _ => some out) (fun k => by simp only [comps_seen.l0]; rw [if_pos (by simp)]) (Ev.now _), hI.post hin⟩
    · rw [List.concat_eq_append] at hI hM ⊢
      obtain ⟨a0, a1, hm⟩ := hI.inl a (by simp)
      have hcnt := hI.cnt
      rw [List.length_append, List.length_singleton] at hcnt hM
      have hat : a.toNat < L.length := by omega
      obtain ⟨r, hr, hP⟩ := seen_inner L hL hin src a.toNat hat (hmany _ hat) M (fun out' left' h1 h2 => ih _ h2 out' left' h1 (Nat.le_refl _)) _ 0 out ini (by omega) rfl ⟨hI.len, hI.here, by omega, fun y hy => hI.inl y (List.mem_append_left _ hy), hI.sound, by
          intro i hi hmi
          rcases hI.closed i hi hmi with h | h | h
          · rcases List.mem_append.1 h with h | h
            · exact .inl h
            · rw [List.mem_singleton] at h
              exact .inr (.inl (by omega))
          · exact h.elim
          · exact .inr (.inr h)⟩ hm (by omega) (fun i hi => by omega)
      refine ⟨r, Ev.step (fun k => ?_) hr, hP⟩
      have hw := Aside0.mk (show wrap64 (((ini ++ [a]).length : Int) - 1) = (ini.length : Int) by rw [wrap_id (by simp <;> omega) (by simp <;> omega)]; simp)
      have hr2 : rd (ini ++ [a]) (ini.length : Int) = a := by unfold rd; simp
      have hg : rd_L7 L a = L.getD a.toNat [] := rfl
      simp only [comps_seen.l0]
      rw [if_neg (by simp <;> omega), hw.out, if_pos (by omega), if_pos (by simp <;> omega), if_pos (by simp <;> omega), hr2, if_pos a0, if_pos (by omega), hg]
      simp
theorem count_new (n : Nat) : (List.replicate n false).count false = n := by simp
theorem seen_ev (L : List (List Int)) (hL : L.length ≤ 1000) (hin : InR L) (hmany : ∀ a, a < L.length → (L.getD a []).length ≤ 100000) (a1 : Int) (h0 : 0 ≤ a1) (h1 : a1 < L.length) :
    ∃ r, Ev (fun k => comps_seen.f k L a1) r ∧ SPost L a1.toNat r := by
  have hl : a1.toNat < (List.replicate L.length false).length := by simp; omega
  have hnm : ¬ Mk (List.replicate L.length false) a1.toNat := by unfold Mk; rw [getD_at _ _ _ hl]; simp
  have hc := count_set _ _ hl hnm
  rw [count_new] at hc
  have hI : SInv L a1.toNat ((List.replicate L.length false).set a1.toNat true) [a1] (fun _ => False) := by
    refine ⟨by simp, ⟨by omega, (mk_set _ _ _ hl).2 (.inl rfl)⟩, by rw [List.length_singleton]; omega, ?_, ?_, ?_⟩
    · intro y hy
      rw [List.mem_singleton] at hy
      subst hy
      exact ⟨h0, h1, (mk_set _ _ _ hl).2 (.inl rfl)⟩
    · intro i hi hm
      rcases (mk_set _ _ _ hl).1 hm with e | e
      · subst e; exact .refl
      · have h2 : i < (List.replicate L.length false).length := by simpa using hi
        exact absurd e (by unfold Mk; rw [getD_at _ _ _ h2]; simp)
    · intro i hi hm
      rcases (mk_set _ _ _ hl).1 hm with e | e
      · subst e; exact .inl (by rw [Int.toNat_of_nonneg h0]; simp)
      · have h2 : i < (List.replicate L.length false).length := by simpa using hi
        exact absurd e (by unfold Mk; rw [getD_at _ _ _ h2]; simp)
  obtain ⟨r, hr, hP⟩ := seen_outer L hL hin hmany a1.toNat _ _ _ hI (Nat.le_refl _)
  refine ⟨r, ?_, hP⟩
  refine Ev.congr (f := fun k => comps_seen.j0 k L a1 (List.replicate L.length false) [] true) (fun k => ?_) (Ev.step (f := fun k => comps_seen.j1 k L ((List.replicate L.length false).set a1.toNat true) [a1]) (fun k => ?_) (Ev.step (fun k => ?_) hr))
  · unfold comps_seen.f
    rw [if_pos (by omega), if_pos (by omega)]
    simp only [Option.bind_some, Int.toNat_natCast]
    rw [if_pos (show a1 ≥ 0 from h0), decide_eq_true h1]
  · simp only [comps_seen.j0]
    rw [if_pos trivial, if_pos (by simp), if_pos h0, if_pos (by simp; omega)]
    rfl
  · simp only [comps_seen.j1]
def src (t : Bool) (x : S53) : Int := if t = true then x.f1 else x.f0
def dst (t : Bool) (x : S53) : Int := if t = true then x.f0 else x.f1
def okE (N : Nat) (x : S53) : Prop := 0 ≤ x.f0 ∧ x.f0 < N ∧ 0 ≤ x.f1 ∧ x.f1 < N
instance (N : Nat) (x : S53) : Decidable (okE N x) := inferInstanceAs (Decidable (_ ∧ _))
def ad (t : Bool) (N : Nat) (l : List S53) (a : Nat) : Nat → List Int
  | 0 => []
  | n + 1 => if okE N (rd_T53 l n) ∧ src t (rd_T53 l n) = a then ad t N l a n ++ [dst t (rd_T53 l n)] else ad t N l a n
def adj (t : Bool) (N : Nat) (l : List S53) (n : Nat) : List (List Int) := (List.range N).map fun a => ad t N l a n
theorem ad_len (t : Bool) (N : Nat) (l : List S53) (a : Nat) : ∀ n, (ad t N l a n).length ≤ n
  | 0 => by simp [ad]
  | n + 1 => by
    have := ad_len t N l a n
    simp only [ad]
    split
    · simp; omega
    · omega
theorem rdT_at (l : List S53) (n : Nat) (h : n < l.length) : rd_T53 l n = l[n] := by unfold rd_T53; rw [Int.toNat_natCast, getD_at _ _ _ h]
theorem ad_mem (t : Bool) (N : Nat) (l : List S53) (a : Nat) (y : Int) : ∀ n, n ≤ l.length → (y ∈ ad t N l a n ↔ ∃ i, i < n ∧ okE N (rd_T53 l i) ∧ src t (rd_T53 l i) = a ∧ dst t (rd_T53 l i) = y)
  | 0, _ => by simp [ad]
  | n + 1, h => by
    have ih := ad_mem t N l a y n (by omega)
    simp only [ad]
    split
    · rename_i hv
      rw [List.mem_append, ih, List.mem_singleton]
      constructor
      · rintro (⟨i, h1, h2⟩ | h1)
        · exact ⟨i, by omega, h2⟩
        · exact ⟨n, by omega, hv.1, hv.2, h1.symm⟩
      · rintro ⟨i, h1, h2, h3, h4⟩
        by_cases e : i = n
        · subst e; exact .inr h4.symm
        · exact .inl ⟨i, by omega, h2, h3, h4⟩
    · rename_i hv
      rw [ih]
      constructor
      · rintro ⟨i, h1, h2⟩; exact ⟨i, by omega, h2⟩
      · rintro ⟨i, h1, h2, h3, h4⟩
        refine ⟨i, ?_, h2, h3, h4⟩
        by_cases e : i = n
        · subst e; exact absurd ⟨h2, h3⟩ hv
        · omega
theorem adj_len (t : Bool) (N : Nat) (l : List S53) (n : Nat) : (adj t N l n).length = N := by simp [adj]
theorem adj_at (t : Bool) (N : Nat) (l : List S53) (n : Nat) (a : Nat) (h : a < N) : (adj t N l n).getD a [] = ad t N l a n := by
  rw [getD_at _ _ _ (by rw [adj_len]; exact h)]
  simp [adj]
theorem adj_set (t : Bool) (N : Nat) (l : List S53) (n : Nat) (hv : okE N (rd_T53 l n)) :
    (adj t N l n).set (src t (rd_T53 l n)).toNat ((adj t N l n).getD (src t (rd_T53 l n)).toNat [] ++ [dst t (rd_T53 l n)]) = adj t N l (n + 1) := by
  obtain ⟨v1, v2, v3, v4⟩ := hv
  have hs : 0 ≤ src t (rd_T53 l n) ∧ src t (rd_T53 l n) < N := by unfold src; split <;> exact ⟨by assumption, by assumption⟩
  rw [adj_at t N l n _ (by omega)]
  apply List.ext_getElem
  · simp [adj]
  · intro i h1 h2
    rw [List.getElem_set]
    simp only [adj, List.getElem_map, List.getElem_range, ad]
    by_cases e : (src t (rd_T53 l n)).toNat = i
    · rw [if_pos e, if_pos ⟨⟨v1, v2, v3, v4⟩, by omega⟩, e]
    · rw [if_neg e, if_neg (by intro hh; omega)]
theorem adj_skip (t : Bool) (N : Nat) (l : List S53) (n : Nat) (hv : ¬ okE N (rd_T53 l n)) : adj t N l (n + 1) = adj t N l n := by
  unfold adj
  congr 1
  funext a
  simp only [ad]
  rw [if_neg (fun h => hv h.1)]
theorem lists_ev (t : Bool) (N : Nat) (hN : N ≤ 1000) (l : List S53) (hl : l.length ≤ 100000) (d : Nat) : ∀ n, n ≤ l.length → l.length - n = d →
    Ev (fun k => comps_lists.l0 k N t (adj t N l n) l l.length n) (adj t N l l.length) := by
  induction d with
  | zero =>
    intro n hn hd
    obtain rfl : n = l.length := by omega
    refine Ev.step (f := fun _ => some (adj t N l l.length)) (fun k => ?_) (Ev.now _)
    simp only [comps_lists.l0]
    rw [if_neg (by omega)]
  | succ d ih =>
    intro n hn hd
    have hnx := ih (n + 1) (by omega) (by omega)
    refine Ev.step (fun k => ?_) hnx
    have hlen := ad_len t N l
    have hw := Aside0.mk (show wrap64 ((n : Int) + 1) = ((n + 1 : Nat) : Int) by rw [wrap_id (by omega) (by omega)]; rfl)
    simp only [comps_lists.l0]
    rw [if_pos (by omega), if_pos (by omega), if_pos (by omega), hw.out, adj_len]
    generalize hx : rd_T53 l (n : Int) = x
    have hset := adj_set t N l n
    have hskip := adj_skip t N l n
    rw [hx] at hset hskip
    have hrd : ∀ z : Int, rd_L7 (adj t N l n) z = (adj t N l n).getD z.toNat [] := fun _ => rfl
    have hmn : ∀ p q : Int, (mn p q ≥ 0 ↔ 0 ≤ p ∧ 0 ≤ q) := by intro p q; unfold mn; split <;> omega
    have hmx : ∀ p q : Int, (mx p q < N ↔ p < N ∧ q < N) := by intro p q; unfold mx; split <;> omega
    have hroom : ∀ z : Int, 0 ≤ z → z < N → (rd_L7 (adj t N l n) z).length < 17592186044416 := by
      intro z z0 z1
      rw [hrd, adj_at t N l n _ (by omega)]
      have := hlen z.toNat n
      omega
    by_cases ht : t = true
    · subst ht
      rw [if_pos rfl]
      by_cases hv : okE N x
      · obtain ⟨v1, v2, v3, v4⟩ := hv
        rw [if_pos ((hmn _ _).2 ⟨v3, v1⟩), if_pos ((hmx _ _).2 ⟨v4, v2⟩), if_pos v3, if_pos v4, if_pos (hroom _ v3 v4), hrd]
        have := hset ⟨v1, v2, v3, v4⟩
        unfold src dst at this
        rw [if_pos rfl, if_pos rfl] at this
        rw [this]
      · rw [hskip hv]
        by_cases h1 : mn x.f1 x.f0 ≥ 0
        · rw [if_pos h1, if_neg (fun h2 => hv ⟨((hmn _ _).1 h1).2, ((hmx _ _).1 h2).2, ((hmn _ _).1 h1).1, ((hmx _ _).1 h2).1⟩)]
        · rw [if_neg h1]
    · have ht' : t = false := by simpa using ht
      subst ht'
      rw [if_neg (by simp)]
      by_cases hv : okE N x
      · obtain ⟨v1, v2, v3, v4⟩ := hv
        rw [if_pos ((hmn _ _).2 ⟨v1, v3⟩), if_pos ((hmx _ _).2 ⟨v2, v4⟩), if_pos v1, if_pos v2, if_pos (hroom _ v1 v2), hrd]
        have := hset ⟨v1, v2, v3, v4⟩
        unfold src dst at this
        rw [if_neg (by simp), if_neg (by simp)] at this
        rw [this]
      · rw [hskip hv]
        by_cases h1 : mn x.f0 x.f1 ≥ 0
        · rw [if_pos h1, if_neg (fun h2 => hv ⟨((hmn _ _).1 h1).1, ((hmx _ _).1 h2).1, ((hmn _ _).1 h1).2, ((hmx _ _).1 h2).2⟩)]
        · rw [if_neg h1]
theorem Lists_ev (t : Bool) (N : Nat) (hN : N ≤ 1000) (l : List S53) (hl : l.length ≤ 100000) : Ev (fun k => comps_lists.f k N l t) (adj t N l l.length) := by
  have h := lists_ev t N hN l hl l.length 0 (by omega) (by omega)
  refine Ev.congr (fun k => ?_) h
  unfold comps_lists.f
  rw [if_pos (by omega), if_pos (by omega)]
  have : adj t N l 0 = List.replicate N [] := by
    apply List.ext_getElem
    · simp [adj]
    · intro i h1 h2; simp [adj, ad]
  rw [this, Int.toNat_natCast]
  rfl
def Edge (N : Nat) (l : List S53) (a b : Nat) : Prop := a < N ∧ b < N ∧ ∃ x ∈ l, x.f0 = a ∧ x.f1 = b
theorem adj_edge (N : Nat) (l : List S53) (a b : Nat) : EL (adj false N l l.length) a b ↔ Edge N l a b := by
  unfold EL Edge
  rw [adj_len]
  constructor
  · rintro ⟨ha, hb⟩
    rw [adj_at _ _ _ _ _ ha, ad_mem _ _ _ _ _ _ (Nat.le_refl _)] at hb
    obtain ⟨i, h1, ⟨v1, v2, v3, v4⟩, h3, h4⟩ := hb
    rw [rdT_at _ _ h1] at v1 v2 v3 v4 h3 h4
    simp only [src, dst] at h3 h4
    rw [if_neg (by simp)] at h3 h4
    exact ⟨ha, by omega, _, List.getElem_mem h1, h3, h4⟩
  · rintro ⟨ha, hb, x, hx, h3, h4⟩
    refine ⟨ha, ?_⟩
    rw [adj_at _ _ _ _ _ ha, ad_mem _ _ _ _ _ _ (Nat.le_refl _)]
    obtain ⟨i, h1, rfl⟩ := List.getElem_of_mem hx
    refine ⟨i, h1, ?_⟩
    rw [rdT_at _ _ h1]
    refine ⟨⟨by omega, by omega, by omega, by omega⟩, ?_, ?_⟩
    · simp only [src]; rw [if_neg (by simp)]; exact h3
    · simp only [dst]; rw [if_neg (by simp)]; exact h4
theorem adj_edge_t (N : Nat) (l : List S53) (a b : Nat) : EL (adj true N l l.length) a b ↔ Edge N l b a := by
  unfold EL Edge
  rw [adj_len]
  constructor
  · rintro ⟨ha, hb⟩
    rw [adj_at _ _ _ _ _ ha, ad_mem _ _ _ _ _ _ (Nat.le_refl _)] at hb
    obtain ⟨i, h1, ⟨v1, v2, v3, v4⟩, h3, h4⟩ := hb
    rw [rdT_at _ _ h1] at v1 v2 v3 v4 h3 h4
    simp only [src, dst] at h3 h4
    rw [if_pos trivial] at h3 h4
    exact ⟨by omega, ha, _, List.getElem_mem h1, h4, h3⟩
  · rintro ⟨hb, ha, x, hx, h4, h3⟩
    refine ⟨ha, ?_⟩
    rw [adj_at _ _ _ _ _ ha, ad_mem _ _ _ _ _ _ (Nat.le_refl _)]
    obtain ⟨i, h1, rfl⟩ := List.getElem_of_mem hx
    refine ⟨i, h1, ?_⟩
    rw [rdT_at _ _ h1]
    refine ⟨⟨by omega, by omega, by omega, by omega⟩, ?_, ?_⟩
    · simp only [src]; rw [if_pos trivial]; exact h3
    · simp only [dst]; rw [if_pos trivial]; exact h4
theorem adj_in (t : Bool) (N : Nat) (l : List S53) : InR (adj t N l l.length) := by
  intro a ha y hy
  rw [adj_len] at ha ⊢
  rw [adj_at _ _ _ _ _ ha, ad_mem _ _ _ _ _ _ (Nat.le_refl _)] at hy
  obtain ⟨i, h1, ⟨v1, v2, v3, v4⟩, h3, h4⟩ := hy
  subst h4
  unfold dst
  split
  · exact ⟨v1, v2⟩
  · exact ⟨v3, v4⟩
theorem adj_many (t : Bool) (N : Nat) (l : List S53) (hl : l.length ≤ 100000) : ∀ a, a < (adj t N l l.length).length → ((adj t N l l.length).getD a []).length ≤ 100000 := by
  intro a ha
  rw [adj_len] at ha
  rw [adj_at _ _ _ _ _ ha]
  have := ad_len t N l a l.length
  omega
theorem down_ev (N : Nat) (hN : N ≤ 1000) (l : List S53) (hl : l.length ≤ 100000) (i : Nat) (hi : i < N) : ∃ r, Ev (fun k => comps_seen.f k (adj false N l l.length) i) r ∧ r.length = N ∧ ∀ j, j < N → (Mk r j ↔ R (Edge N l) i j) := by
  obtain ⟨r, hr, h1, h2⟩ := seen_ev (adj false N l l.length) (by rw [adj_len]; exact hN) (adj_in _ _ _) (adj_many _ _ _ hl) i (by omega) (by rw [adj_len]; omega)
  rw [adj_len] at h1 h2
  refine ⟨r, hr, h1, fun j hj => (h2 j hj).trans ?_⟩
  rw [Int.toNat_natCast]
  exact ⟨R.mono fun a b h => (adj_edge N l a b).1 h, R.mono fun a b h => (adj_edge N l a b).2 h⟩
theorem up_ev (N : Nat) (hN : N ≤ 1000) (l : List S53) (hl : l.length ≤ 100000) (i : Nat) (hi : i < N) : ∃ r, Ev (fun k => comps_seen.f k (adj true N l l.length) i) r ∧ r.length = N ∧ ∀ j, j < N → (Mk r j ↔ R (Edge N l) j i) := by
  obtain ⟨r, hr, h1, h2⟩ := seen_ev (adj true N l l.length) (by rw [adj_len]; exact hN) (adj_in _ _ _) (adj_many _ _ _ hl) i (by omega) (by rw [adj_len]; omega)
  rw [adj_len] at h1 h2
  refine ⟨r, hr, h1, fun j hj => (h2 j hj).trans ?_⟩
  rw [Int.toNat_natCast]
  exact ⟨fun h => (R.mono (fun a b h => (adj_edge_t N l a b).1 h) h).flip, fun h => R.mono (fun a b h => (adj_edge_t N l a b).2 h) h.flip⟩
end Go.Proofs.Ytfkilcegdajdcaa.Core

namespace Go.Proofs.Ytfkilcegdajdcaa.Core
open Go.RowKit Go.Proofs.Ytfkilcegdajdcaa.PZ Go.Proofs.YtfkilcegdajdcaaW.PrintWords Go.Proofs.YtfkilcegdajdcaaW.PrintLast Go.Proofs.YtfkilcegdajdcaaW.PrintMore
set_option linter.unusedVariables false
set_option linter.unusedSimpArgs false
theorem rd_set (xs : List Int) (j i : Nat) (v : Int) (hj : j < xs.length) : rd (xs.set j v) (i : Int) = if i = j then v else rd xs i := by
  unfold rd
  rw [Int.toNat_natCast, List.getD_eq_getElem?_getD, List.getElem?_set]
  by_cases e : j = i
  · subst e; simp [hj]
  · rw [if_neg e, if_neg (fun h => e h.symm), List.getD_eq_getElem?_getD]
theorem rd_at (xs : List Int) (i : Nat) (h : i < xs.length) : rd xs (i : Int) = xs[i] := by unfold rd; rw [Int.toNat_natCast, getD_at _ _ _ h]
theorem rd_rep (n : Nat) (v : Int) (i : Nat) (h : i < n) : rd (List.replicate n v) (i : Int) = v := by rw [rd_at _ _ (by simpa using h)]; simp
theorem count_setI (xs : List Int) (j : Nat) (v : Int) (hj : j < xs.length) (h : rd xs (j : Int) = -1) (hv : v ≠ -1) : (xs.set j v).count (-1) + 1 = xs.count (-1) := by
  induction xs generalizing j with
  | nil => simp at hj
  | cons b bs ih =>
    cases j with
    | zero =>
      have : b = -1 := by simpa [rd] using h
      subst this
      simp [List.count_cons, hv]
    | succ j =>
      have := ih j (by simpa using hj) (by rw [rd_at _ _ (by simpa using hj)]; rw [rd_at _ _ hj] at h; simpa using h)
      rw [List.set_cons_succ, List.count_cons, List.count_cons]
      omega
theorem count_pos (xs : List Int) (h : 0 < xs.count (-1)) : ∃ q, q < xs.length ∧ rd xs (q : Int) = -1 := by
  have := List.count_pos_iff.1 h
  obtain ⟨q, hq, e⟩ := List.getElem_of_mem this
  exact ⟨q, hq, by rw [rd_at _ _ hq]; exact e⟩
def Mut (E : Nat → Nat → Prop) (i j : Nat) : Prop := R E i j ∧ R E j i
theorem Mut.symm {E : Nat → Nat → Prop} {i j : Nat} (h : Mut E i j) : Mut E j i := ⟨h.2, h.1⟩
theorem Mut.refl (E : Nat → Nat → Prop) (i : Nat) : Mut E i i := ⟨.refl, .refl⟩
theorem Mut.trans {E : Nat → Nat → Prop} {i j k : Nat} (h : Mut E i j) (h' : Mut E j k) : Mut E i k := ⟨h.1.trans h'.1, h'.2.trans h.2⟩
def Free (N : Nat) (E : Nat → Nat → Prop) (of : Nat → Int) (j : Nat) (m : Int) : Prop := m ≤ of j ∧ ∀ k, k < N → R E j k → R E k j ∨ of k < m
structure Good (N : Nat) (E : Nat → Nat → Prop) (of : Nat → Int) : Prop where
  cls : ∀ i j, i < N → j < N → (of i = of j ↔ Mut E i j)
  nn : ∀ i, i < N → 0 ≤ of i
  first : ∀ i, i < N → ∃ b, b < N ∧ of b = of i ∧ Free N E of b (of i) ∧ ∀ j, j < b → ¬ Free N E of j (of i)
  full : ∀ i, i < N → ∀ m : Int, 0 ≤ m → m < of i → ∃ j, j < N ∧ of j = m
theorem Good.unique {N : Nat} {E : Nat → Nat → Prop} {f g : Nat → Int} (hf : Good N E f) (hg : Good N E g) : ∀ i, i < N → f i = g i := by
  have key : ∀ m : Nat, ∀ i, i < N → (f i = m ↔ g i = m) := by
    intro m
    induction m using Nat.strongRecOn with
    | _ m ih =>
      have hlt : ∀ i, i < N → (f i < m ↔ g i < m) := by
        intro i hi
        have h1 := hf.nn i hi
        have h2 := hg.nn i hi
        constructor
        · intro h; have := (ih (f i).toNat (by omega) i hi).1 (by omega); omega
        · intro h; have := (ih (g i).toNat (by omega) i hi).2 (by omega); omega
      have hfree : ∀ j, j < N → (Free N E f j m ↔ Free N E g j m) := by
        intro j hj
        unfold Free
        have := hlt j hj
        constructor
        · rintro ⟨h1, h2⟩
          refine ⟨by omega, fun k hk hr => (h2 k hk hr).imp id fun h => (hlt k hk).1 h⟩
        · rintro ⟨h1, h2⟩
          refine ⟨by omega, fun k hk hr => (h2 k hk hr).imp id fun h => (hlt k hk).2 h⟩
      have one : ∀ (f g : Nat → Int), Good N E f → Good N E g → (∀ i, i < N → (f i < m ↔ g i < m)) → (∀ j, j < N → (Free N E f j m ↔ Free N E g j m)) → ∀ i, i < N → f i = m → g i = m := by
        intro f g hf hg hlt hfree i hi hm
        obtain ⟨b, hb, hbm, hbf, hbl⟩ := hf.first i hi
        rw [hm] at hbm hbf hbl
        have hgi : (m : Int) ≤ g i := by have := hlt i hi; omega
        obtain ⟨j, hj, hjm⟩ : ∃ j, j < N ∧ g j = m := by
          by_cases e : g i = m
          · exact ⟨i, hi, e⟩
          · exact hg.full i hi m (by omega) (by omega)
        obtain ⟨b', hb', hbm', hbf', hbl'⟩ := hg.first j hj
        rw [hjm] at hbm' hbf' hbl'
        have e : b = b' := by
          rcases Nat.lt_trichotomy b b' with h | h | h
          · exact absurd ((hfree b hb).1 hbf) (hbl' b h)
          · exact h
          · exact absurd ((hfree b' hb').2 hbf') (hbl b' h)
        subst e
        have h1 := (hf.cls b i hb hi).1 (by rw [hbm, hm])
        have h2 := (hg.cls b i hb hi).2 h1
        rw [← h2, hbm']
      intro i hi
      exact ⟨one f g hf hg hlt hfree i hi, one g f hg hf (fun i hi => (hlt i hi).symm) (fun j hj => (hfree j hj).symm) i hi⟩
  intro i hi
  have h := hf.nn i hi
  have := (key (f i).toNat i hi).1 (by omega)
  omega
theorem Good.down {N : Nat} {E : Nat → Nat → Prop} {f : Nat → Int} (hf : Good N E f) {i k : Nat} (hi : i < N) (hk : k < N) (h : R E i k) : f k ≤ f i := by
  obtain ⟨b, hb, hbm, hbf, _⟩ := hf.first i hi
  have hm := (hf.cls b i hb hi).1 hbm
  rcases hbf.2 k hk (hm.1.trans h) with h1 | h1
  · have := (hf.cls b k hb hk).2 ⟨hm.1.trans h, h1⟩
    omega
  · omega
theorem idxO_spec (p : Int → Option Bool) : ∀ (xs : List Int) (j : Nat), (∀ x ∈ xs, ∃ b, p x = some b) → ∃ i, idxO p xs j = some i ∧ (i ≥ 0 ↔ ∃ x ∈ xs, p x = some true) ∧ (i < 0 → i = -1)
  | [], j, _ => ⟨-1, rfl, by simp, fun _ => rfl⟩
  | x :: xs, j, h => by
    obtain ⟨b, hb⟩ := h x (by simp)
    obtain ⟨i, hi, h1, h2⟩ := idxO_spec p xs (j + 1) fun y hy => h y (by simp [hy])
    simp only [idxO, hb, Option.bind_some]
    cases b with
    | true => exact ⟨j, by simp, by simp [hb], fun h => by omega⟩
    | false =>
      refine ⟨i, by simp [hi], ?_, h2⟩
      rw [h1]
      simp [hb]
theorem anyO_spec (p : Int → Option Bool) (xs : List Int) (h : ∀ x ∈ xs, ∃ b, p x = some b) : ∃ b, anyO p xs = some b ∧ (b = true ↔ ∃ x ∈ xs, p x = some true) := by
  obtain ⟨i, hi, h1, _⟩ := idxO_spec p xs 0 h
  exact ⟨decide (i ≥ 0), by unfold anyO; rw [hi]; rfl, by rw [decide_eq_true_iff]; exact h1⟩
theorem cnt_lt (p q : Nat → Bool) : ∀ N, (∀ x, x < N → p x = true → q x = true) → (∃ x, x < N ∧ q x = true ∧ p x = false) → (List.range N).countP p < (List.range N).countP q
  | 0, _, ⟨x, hx, _⟩ => by omega
  | N + 1, h, ⟨x, hx, h1, h2⟩ => by
    rw [List.range_succ, List.countP_append, List.countP_append, List.countP_singleton, List.countP_singleton]
    have hle : (List.range N).countP p ≤ (List.range N).countP q := List.countP_mono_left fun y hy hp => h y (by rw [List.mem_range] at hy; omega) hp
    by_cases e : x = N
    · subst e
      rw [h1, h2]
      simp
      omega
    · have := cnt_lt p q N (fun y hy => h y (by omega)) ⟨x, by omega, h1, h2⟩
      have hN := h N (by omega)
      cases hp : p N with
      | true => rw [hN hp]; simp; omega
      | false => simp; split <;> omega
end Go.Proofs.Ytfkilcegdajdcaa.Core
