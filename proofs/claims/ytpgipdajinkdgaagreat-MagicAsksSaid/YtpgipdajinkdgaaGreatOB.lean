/- A part of the proof of MagicAsks: functions of the program, run by the evaluator. -/

/- Programs, read with a bound on their names. -/
import Derived.Test.YtpgipdajinkdgaaGreatO2
import Derived.Test.YtpgipdajinkdgaaGreatM1
import Derived.SizedLaws
namespace Go.Proofs.YtpgipdajinkdgaaGreatA
open Go Go.RowKit
set_option linter.all false
set_option linter.unusedSectionVars false
set_option linter.constructorNameAsVariable false
set_option linter.unusedVariables false
set_option linter.unusedSimpArgs false
def OpB (t : TypeId) (Q : List AV → Prop) : Prop := ∀ (H : Type) (enc : TypeId × Value → H) (w : World) (base fuel : Nat) (spare : Nat → Bool) (held : Bool) (cs : List Value) (y : DataW H × List MemPlace), DataW.trod enc Tryz.prog w base spare held fuel t cs = some y → (∀ n ∈ y.1.weights Tryz.prog t, n ≤ reachBytes) → ∃ x, Q x ∧ VRL w nF BM.none x cs
theorem Op.toB {t : TypeId} {Q : List AV → Prop} (h : Op t Q) : OpB t Q := fun H enc w base fuel spare held cs y hh _ => h H enc w base fuel spare held cs y hh
theorem OpB.imp {t : TypeId} {Q R : List AV → Prop} (h : OpB t Q) (k : ∀ x, Q x → R x) : OpB t R := by
  intro H enc w base fuel spare held cs y hh hw
  obtain ⟨x, hx, hv⟩ := h H enc w base fuel spare held cs y hh hw
  exact ⟨x, k x hx, hv⟩
theorem readsB_str : OpB 9 (fun x => ∃ s : ByteArray, s.size ≤ reachBytes ∧ x = [.sc (.string s)]) := by
  intro H enc w base fuel spare held cs y h hw
  obtain ⟨s, rfl, e, _⟩ := DataW.trod_string Tryz.underlying9 h
  subst e
  refine ⟨_, ⟨s, ?_, rfl⟩, by simp only [VRL, VR]; exact ⟨_, _, rfl, rfl, rfl⟩⟩
  have := hw s.data.toList.length (by simp [DataW.weights])
  simpa using this
theorem readsB_struct {t : TypeId} {fs : Array Field} {Q : Nat → List AV → Prop} (ht : Tryz.prog.underlying t = some (.struct fs)) (ho : offOk Tryz.prog fs.toList 0 = some (Tryz.prog.cellsOf t)) (hQ : ∀ i f, fs[i]? = some f → OpB f.type (Q i)) :
    OpB t (fun x => ∃ xs : List (List AV), xs.length = fs.size ∧ (∀ i z, xs[i]? = some z → Q i z) ∧ x = xs.flatten) := by
  intro H enc w base fuel spare held cs y h hw
  obtain ⟨ys, n, _, e, hl, hx, hel⟩ := DataW.trod_struct ht h
  subst e
  obtain ⟨xs, h1, h2, h3⟩ := fields_read (w := w) (cs := cs) (Q := Q) fs.toList 0 0 _ ho hl (fun i f hf => by
    have hf' : fs[i]? = some f := by simpa using hf
    have := hel i f hf'
    have hi : i < ys.length := by
      rw [hx]
      rcases Nat.lt_or_ge i fs.size with h' | h'
      · exact h'
      · rw [Array.getElem?_eq_none h'] at hf'; cases hf'
    rw [List.getElem?_eq_getElem hi] at this
    rw [Nat.zero_add]
    refine hQ i f hf' _ _ _ _ _ _ _ _ _ this fun m hm => hw m ?_
    simp only [DataW.weights, ht]
    exact DataW.weights_mem_each (j := i) (by rw [List.getElem?_map, hf]; rfl) (by rw [List.getElem?_map, List.getElem?_eq_getElem hi]; rfl) m hm)
  refine ⟨xs.flatten, ⟨xs, by simpa using h1, fun i z hz => by have := h2 i z hz; rwa [Nat.zero_add] at this, rfl⟩, ?_⟩
  rwa [List.drop_zero] at h3
theorem weights_all {H : Type} {P : Program} {e : TypeId} : ∀ {l : List (DataW H)} {d : DataW H}, d ∈ l → ∀ n ∈ d.weights P e, n ∈ DataW.weightsAll P e l
  | a :: l, d, hd, n, hn => by
    rw [DataW.weightsAll, List.mem_append]
    rcases List.mem_cons.1 hd with rfl | hd
    · exact .inl hn
    · exact .inr (weights_all hd n hn)
theorem readsB_slice {α : Type} {ok : α → Prop} {E : α → List AV} {t e : TypeId} {sz : Nat} (hu : Tryz.prog.underlying t = some (.slice e)) (hc : Tryz.prog.cellsOf e = sz) (hlen : ∀ x, (E x).length = sz) (hon : ∀ x, (E x).all one = true) (hE : OpB e (fun x => ∃ a : α, ok a ∧ x = E a)) :
    OpB t (fun x => ∃ l : List α, (∀ a ∈ l, ok a) ∧ x = [mkL sz (l.map E)]) := by
  intro H enc w base fuel spare held cs y h hw
  rcases DataW.trod_slice hu h with ⟨hcs, _⟩ | ⟨a, len, cap, elems, rest, m, _, hcs, ey, hb, hl, hm, hn, hel, _⟩
  · subst hcs
    refine ⟨_, ⟨[], (fun a ha => by cases ha), rfl⟩, ?_⟩
    simp only [VRL]
    exact ⟨_, _, rfl, VR.empty, rfl⟩
  · subst hcs
    subst ey
    obtain ⟨l, hll, hq⟩ := exists_list (α := α × List Value) (Q := fun i p => ok p.1 ∧ VRL w nF BM.none (E p.1) p.2 ∧ ∀ (j : Nat) y, p.2[j]? = some y → w.cell? (a.add (0 + i * sz + j)) = some y) len (by
      intro i hi
      have := hel i hi
      have hie : i < elems.length := by omega
      rw [List.getElem?_eq_getElem hie, Option.bind_eq_some_iff] at this
      obtain ⟨c, hc1, hc2⟩ := this
      obtain ⟨_, hcl, hcell⟩ := World.cells?_some hc1
      obtain ⟨x, ⟨d, hok, rfl⟩, hv⟩ := hE H enc w base m spare held c _ hc2 (fun n hn2 => hw n (by
        simp only [DataW.weights, hu, List.mem_cons, List.mem_append]
        exact .inr (.inl (weights_all (List.mem_map.2 ⟨_, List.getElem_mem hie, rfl⟩) n hn2))))
      refine ⟨(d, c), hok, hv, fun j y hj => ?_⟩
      have hjl : j < c.length := by rcases Nat.lt_or_ge j c.length with h' | h'; exact h'; rw [List.getElem?_eq_none h'] at hj; cases hj
      have := hcell j (by omega)
      rw [add2, hc] at this
      rw [Nat.zero_add, this]
      exact hj)
    obtain ⟨h1, h2⟩ := rows_read (w := w) (a := a) hlen l 0 fun i p hp => (hq i p hp).2
    have hone : ∀ y ∈ (l.map (·.2)).flatten, y.oneCell' = true := by
      intro y hy
      obtain ⟨c, hc1, hy⟩ := List.mem_flatten.1 hy
      obtain ⟨p, hp, rfl⟩ := List.mem_map.1 hc1
      obtain ⟨i, hi, rfl⟩ := List.mem_iff_getElem.1 hp
      exact one_cell (hq i _ (List.getElem?_eq_getElem hi)).2.1 (hon _) y hy
    refine ⟨_, ⟨l.map (·.1), fun z hz => ?_, rfl⟩, ?_⟩
    · obtain ⟨q, hqm, rfl⟩ := List.mem_map.1 hz
      obtain ⟨i, hi, rfl⟩ := List.mem_iff_getElem.1 hqm
      exact (hq i _ (List.getElem?_eq_getElem hi)).1
    · simp only [VRL]
      refine ⟨_, _, rfl, mkL_ok ?_, rfl⟩
      simp only [VR]
      refine ⟨some a, cap, (l.map (·.2)).flatten, by simp [hll], by simp [hll]; exact hl, fun r hr => ?_, by simpa [List.map_map, Function.comp_def] using h1, hone, .inr ⟨a, rfl, fun hf => hf.elim, fun j y hj => by have := h2 j y hj; rwa [Nat.zero_add] at this⟩⟩
      obtain ⟨x, _, rfl⟩ := List.mem_map.1 hr
      exact hlen x
def LitOk (l : LitT) : Prop := l.a.p.size ≤ reachBytes ∧ ∀ s ∈ l.path, s.l.size ≤ reachBytes
def RuleOk (r : RuleT) : Prop := r.head.p.size ≤ reachBytes ∧ ∀ l ∈ r.body, LitOk l
def ProgOk (p : ProgT) : Prop := p.query.p.size ≤ reachBytes ∧ ∀ r ∈ p.rules, RuleOk r
theorem readsB_atom : OpB 26 (fun x => ∃ a : AtomT, a.p.size ≤ reachBytes ∧ x = a.c) := by
  have h := readsB_struct (Q := fun i x => match i with | 0 => ∃ s : ByteArray, s.size ≤ reachBytes ∧ x = [.sc (.string s)] | _ => ∃ l : List TermT, x = [mkL 4 (l.map TermT.c)]) Tryz.underlying26 (by kernel_rfl) (fun i f hf => by
    match i, hf with
    | 0, hf => cases hf; exact readsB_str
    | 1, hf => cases hf; exact reads_terms.toB
    | i + 2, hf => simp at hf)
  refine h.imp fun x ⟨xs, hl, hx, e⟩ => ?_
  match xs, hl with
  | [a, b], _ =>
    obtain ⟨v, hv, rfl⟩ := hx 0 a rfl
    obtain ⟨l, rfl⟩ := hx 1 b rfl
    exact ⟨⟨v, l⟩, hv, e⟩
theorem readsB_step : OpB 105 (fun x => ∃ a : StepT, a.l.size ≤ reachBytes ∧ x = a.c) := by
  have h := readsB_struct (Q := fun i x => match i with | 0 => ∃ n : Int, x = [.sc (.int .i64 n)] | _ => ∃ s : ByteArray, s.size ≤ reachBytes ∧ x = [.sc (.string s)]) Tryz.underlying105 (by kernel_rfl) (fun i f hf => by
    match i, hf with
    | 0, hf => cases hf; exact (reads_i64 Tryz.underlying3).toB
    | 1, hf => cases hf; exact readsB_str
    | i + 2, hf => simp at hf)
  refine h.imp fun x ⟨xs, hl, hx, e⟩ => ?_
  match xs, hl with
  | [a, b], _ =>
    obtain ⟨v, rfl⟩ := hx 0 a rfl
    obtain ⟨l, hl, rfl⟩ := hx 1 b rfl
    exact ⟨⟨v, l⟩, hl, e⟩
theorem readsB_steps : OpB 52 (fun x => ∃ l : List StepT, (∀ s ∈ l, s.l.size ≤ reachBytes) ∧ x = [mkL 2 (l.map StepT.c)]) :=
  readsB_slice Tryz.underlying52 (by kernel_rfl) (fun _ => rfl) (fun _ => rfl) readsB_step
theorem readsB_lit : OpB 54 (fun x => ∃ l : LitT, LitOk l ∧ x = l.c) := by
  have h := readsB_struct (Q := fun i x => match i with | 0 => ∃ n : Int, x = [.sc (.int .i64 n)] | 1 => ∃ a : AtomT, a.p.size ≤ reachBytes ∧ x = a.c | 2 => ∃ s : ByteArray, x = [.sc (.string s)] | 3 => ∃ t : TermT, x = t.c | 4 => ∃ t : TermT, x = t.c | 5 => ∃ t : TermT, x = t.c | _ => ∃ l : List StepT, (∀ s ∈ l, s.l.size ≤ reachBytes) ∧ x = [mkL 2 (l.map StepT.c)]) Tryz.underlying54 (by kernel_rfl) (fun i f hf => by
    match i, hf with
    | 0, hf => cases hf; exact (reads_i64 Tryz.underlying3).toB
    | 1, hf => cases hf; exact readsB_atom
    | 2, hf => cases hf; exact reads_str.toB
    | 3, hf => cases hf; exact reads_term.toB
    | 4, hf => cases hf; exact reads_term.toB
    | 5, hf => cases hf; exact reads_term.toB
    | 6, hf => cases hf; exact readsB_steps
    | i + 7, hf => simp at hf)
  refine h.imp fun x ⟨xs, hl, hx, e⟩ => ?_
  match xs, hl with
  | [a, b, c, d, f, g, i], _ =>
    obtain ⟨k, rfl⟩ := hx 0 a rfl
    obtain ⟨at_, ha, rfl⟩ := hx 1 b rfl
    obtain ⟨op, rfl⟩ := hx 2 c rfl
    obtain ⟨A, rfl⟩ := hx 3 d rfl
    obtain ⟨B, rfl⟩ := hx 4 f rfl
    obtain ⟨C, rfl⟩ := hx 5 g rfl
    obtain ⟨p, hp, rfl⟩ := hx 6 i rfl
    exact ⟨⟨k, at_, op, A, B, C, p⟩, ⟨ha, hp⟩, e⟩
theorem readsB_lits : OpB 48 (fun x => ∃ l : List LitT, (∀ s ∈ l, LitOk s) ∧ x = [mkL 17 (l.map LitT.c)]) :=
  readsB_slice Tryz.underlying48 (by kernel_rfl) (fun _ => rfl) lit_one readsB_lit
theorem readsB_rule : OpB 50 (fun x => ∃ l : RuleT, RuleOk l ∧ x = l.c) := by
  have h := readsB_struct (Q := fun i x => match i with | 0 => ∃ a : AtomT, a.p.size ≤ reachBytes ∧ x = a.c | 1 => ∃ n : Int, x = [.sc (.int .i64 n)] | _ => ∃ l : List LitT, (∀ s ∈ l, LitOk s) ∧ x = [mkL 17 (l.map LitT.c)]) Tryz.underlying50 (by kernel_rfl) (fun i f hf => by
    match i, hf with
    | 0, hf => cases hf; exact readsB_atom
    | 1, hf => cases hf; exact (reads_i64 Tryz.underlying3).toB
    | 2, hf => cases hf; exact readsB_lits
    | i + 3, hf => simp at hf)
  refine h.imp fun x ⟨xs, hl, hx, e⟩ => ?_
  match xs, hl with
  | [a, b, c], _ =>
    obtain ⟨at_, ha, rfl⟩ := hx 0 a rfl
    obtain ⟨n, rfl⟩ := hx 1 b rfl
    obtain ⟨l, hl, rfl⟩ := hx 2 c rfl
    exact ⟨⟨at_, n, l⟩, ⟨ha, hl⟩, e⟩
theorem readsB_rules : OpB 38 (fun x => ∃ l : List RuleT, (∀ s ∈ l, RuleOk s) ∧ x = [mkL 4 (l.map RuleT.c)]) :=
  readsB_slice Tryz.underlying38 (by kernel_rfl) (fun _ => rfl) rule_one readsB_rule
theorem readsB_prog : OpB 40 (fun x => ∃ l : ProgT, ProgOk l ∧ x = l.c) := by
  have h := readsB_struct (Q := fun i x => match i with | 0 => ∃ l : List RuleT, (∀ s ∈ l, RuleOk s) ∧ x = [mkL 4 (l.map RuleT.c)] | _ => ∃ a : AtomT, a.p.size ≤ reachBytes ∧ x = a.c) Tryz.underlying40 (by kernel_rfl) (fun i f hf => by
    match i, hf with
    | 0, hf => cases hf; exact readsB_rules
    | 1, hf => cases hf; exact readsB_atom
    | i + 2, hf => simp at hf)
  refine h.imp fun x ⟨xs, hl, hx, e⟩ => ?_
  match xs, hl with
  | [a, b], _ =>
    obtain ⟨l, hl, rfl⟩ := hx 0 a rfl
    obtain ⟨q, hq, rfl⟩ := hx 1 b rfl
    exact ⟨⟨l, q⟩, ⟨hq, hl⟩, e⟩
theorem labs_ok {l : List StepT} (h : ∀ s ∈ l, s.l.size ≤ reachBytes) : ∀ n ∈ labs l, n.size ≤ reachBytes := by
  intro n hn
  unfold labs at hn
  obtain ⟨s, hs, rfl⟩ := List.mem_map.1 (List.mem_filter.1 hn).1
  exact h s hs
theorem progOk_names {p : ProgT} (h : ProgOk p) : ∀ n ∈ allN p, n.size ≤ bigB := by
  have hb : reachBytes ≤ bigB := by unfold reachBytes bigB; omega
  intro n hn
  refine Nat.le_trans ?_ hb
  rcases List.mem_cons.1 hn with rfl | hn
  · exact h.1
  · obtain ⟨r, hr, hn⟩ := List.mem_flatMap.1 hn
    have hR := h.2 r hr
    rcases List.mem_cons.1 hn with rfl | hn
    · exact hR.1
    · obtain ⟨q, hq, rfl⟩ := List.mem_map.1 hn
      unfold eachL at hq
      obtain ⟨l, hl, hq⟩ := List.mem_flatMap.1 hq
      obtain ⟨s, hs, rfl⟩ := List.mem_map.1 hq
      have hL := hR.2 l hl
      have hs := (Ord.nsort_mem Ord.linS _ _).1 hs
      show s.size ≤ reachBytes
      split at hs
      · rw [List.mem_singleton] at hs
        rw [hs]
        exact hL.1
      · split at hs
        · exact labs_ok hL.2 s hs
        · cases hs
theorem prog_bound {H : Type} {enc : TypeId × Value → H} {w : World} {base fuel : Nat} {spare : Nat → Bool} {held : Bool} {cs : List Value} {y : DataW H × List MemPlace} (h : DataW.trod enc Tryz.prog w base spare held fuel 40 cs = some y) (hw : ∀ n ∈ y.1.weights Tryz.prog 40, n ≤ reachBytes) :
    ∃ p : ProgT, (∀ n ∈ allN p, n.size ≤ bigB) ∧ VRL w nF BM.none p.c cs := by
  obtain ⟨x, ⟨p, hp, rfl⟩, hv⟩ := readsB_prog H enc w base fuel spare held cs y h hw
  exact ⟨p, progOk_names hp, hv⟩
end Go.Proofs.YtpgipdajinkdgaaGreatA
