/- How the rules that a rewriting makes stand one behind the other. -/
import Derived.Test.YtpgipdajinkdgaaGreatMX2
import Derived.Test.YtpgipdajinkdgaaGreatMF
namespace Go.Proofs.YtpgipdajinkdgaaGreatA
open Go Go.RowKit
set_option linter.all false
set_option linter.unusedSectionVars false
set_option linter.constructorNameAsVariable false
set_option linter.unusedVariables false
set_option linter.unusedSimpArgs false
def fndS (px : ByteArray) : ByteArray := px ++ isS
def isF (px : ByteArray) (l : LitT) : Bool := decide (l.k = 1) && preB l.a.p (fndS px)
def cntF (px : ByteArray) (ls : List LitT) : Nat := (ls.filter (isF px)).length
structure AskC (px : ByteArray) (A : List RuleT) (x : RuleT) : Prop where
  ne : x.body ≠ []
  guard : ∀ l, x.body[0]? = some l → l.k = 1 ∧ ∃ d : D2, x.head.p = foundS px d ∧ l.a.p = askS px d
  cnt : cntF px (x.body.drop 1) ≤ A.length
  each : ∀ k, 1 ≤ k → k ≤ cntF px (x.body.drop 1) → ∃ y, A[A.length - k]? = some y ∧ y.body ≠ [] ∧ y.body.length < x.body.length ∧ y.body = x.body.take y.body.length
theorem AskC.pre {px : ByteArray} {A : List RuleT} {x : RuleT} (h : AskC px A x) (Z : List RuleT) : AskC px (Z ++ A) x where
  ne := h.ne
  guard := h.guard
  cnt := by rw [List.length_append]; have := h.cnt; omega
  each := fun k h1 h2 => by
    obtain ⟨y, hy, h3⟩ := h.each k h1 h2
    refine ⟨y, ?_, h3⟩
    have := h.cnt
    rw [List.getElem?_append_right (by rw [List.length_append]; omega), List.length_append, show Z.length + A.length - k - Z.length = A.length - k by omega]
    exact hy
def AskR (px : ByteArray) (R : List RuleT) : Prop := ∀ A x C, R = A ++ x :: C → preB x.head.p (fndS px) = true → AskC px A x
theorem AskR.nil {px : ByteArray} : AskR px [] := fun A x C h => by simp at h
theorem AskR.no {px : ByteArray} {R : List RuleT} (h : ∀ x ∈ R, preB x.head.p (fndS px) = false) : AskR px R := fun A x C e hp => by
  rw [h x (by rw [e]; simp)] at hp
  cases hp
theorem AskR.app {px : ByteArray} {R T : List RuleT} (h : AskR px R) (h2 : AskR px T) : AskR px (R ++ T) := by
  intro A x C e hp
  rcases List.append_eq_append_iff.1 e with ⟨Z, e1, e2⟩ | ⟨Z, e1, e2⟩
  · subst e1
    exact (h2 Z x C e2 hp).pre R
  · cases Z with
    | nil =>
      simp only [List.nil_append] at e2
      have := h2 [] x C e2.symm hp
      have h3 := this.pre A
      rwa [List.append_nil] at h3
    | cons z Z =>
      simp only [List.cons_append, List.cons.injEq] at e2
      obtain ⟨rfl, e3⟩ := e2
      exact h A x Z e1 hp
theorem AskR.flat {px : ByteArray} {α : Type} {f : α → List RuleT} : ∀ (l : List α), (∀ a ∈ l, AskR px (f a)) → AskR px (l.flatMap f)
  | [], _ => AskR.nil
  | a :: l, h => by
    rw [List.flatMap_cons]
    exact (h a (List.mem_cons_self ..)).app (AskR.flat l fun x hx => h x (List.mem_cons_of_mem _ hx))
def NoI (u : D2) : Prop := ∀ c r, u.2.data.toList = c :: r → c ≠ 105
theorem ask_no (px : ByteArray) {u : D2} (h : NoI u) : preB (askS px u) (fndS px) = false := by
  cases hp : preB (askS px u) (fndS px) with
  | false => rfl
  | true =>
    exfalso
    unfold preB at hp
    rw [Bool.and_eq_true, decide_eq_true_eq, decide_eq_true_eq] at hp
    have e := congrArg (fun b : ByteArray => b.data.toList) hp.2
    have e1 : (fndS px).data.toList = px.data.toList ++ [105, 115, 95] := by unfold fndS isS; simp
    have e2 : (askS px u).data.toList = px.data.toList ++ (u.2.data.toList ++ (95 :: u.1.data.toList)) := by unfold askS; simp
    have e3 : ((askS px u).extract 0 (fndS px).size).data.toList = (askS px u).data.toList.take (fndS px).size := by simp
    have e4 : (fndS px).size = px.data.toList.length + 3 := by
      have := congrArg List.length e1
      rw [List.length_append] at this
      simpa using this
    rw [e3, e2, e1, e4, List.take_append, List.take_of_length_le (by omega), List.append_cancel_left_eq, Nat.add_sub_cancel_left] at e
    cases hu : u.2.data.toList with
    | nil =>
      rw [hu] at e
      simp at e
    | cons c r =>
      rw [hu] at e
      simp only [List.cons_append, List.take_succ_cons, List.cons.injEq] at e
      exact h c r hu e.1
structure GrpI (px : ByteArray) (g : LitT) (s : List LitT × List ByteArray × List RuleT) : Prop where
  hd : s.1[0]? = some g
  cnt : cntF px (s.1.drop 1) = s.2.2.length
  out : ∀ y ∈ s.2.2, preB y.head.p (fndS px) = false ∧ y.body ≠ [] ∧ y.body.length < s.1.length ∧ y.body = s.1.take y.body.length
theorem cntF_app (px : ByteArray) (a b : List LitT) : cntF px (a ++ b) = cntF px a + cntF px b := by
  unfold cntF
  rw [List.filter_append, List.length_append]
theorem grp_step {px : ByteArray} {op : List ByteArray} {used : List D2} (hu : ∀ u ∈ used, NoI u) {g : LitT} {s : List LitT × List ByteArray × List RuleT} (h : GrpI px g s) {l : LitT} (hl : l.k = 1 → preB l.a.p (fndS px) = false) : GrpI px g (rulS px op used s l) := by
  have hne : s.1 ≠ [] := fun e => by have := h.hd; rw [e] at this; simp at this
  have hpos : 0 < s.1.length := List.length_pos_iff.2 hne
  have hdrop : ∀ x : LitT, (s.1 ++ [x]).drop 1 = s.1.drop 1 ++ [x] := fun x => by
    rw [List.drop_append_of_le_length (by omega)]
  have hhd : ∀ x : LitT, (s.1 ++ [x])[0]? = some g := fun x => by
    rw [List.getElem?_append_left hpos]
    exact h.hd
  have hold : ∀ (x : LitT) (y : RuleT), y ∈ s.2.2 → preB y.head.p (fndS px) = false ∧ y.body ≠ [] ∧ y.body.length < (s.1 ++ [x]).length ∧ y.body = (s.1 ++ [x]).take y.body.length := fun x y hy => by
    obtain ⟨a, b, c, d⟩ := h.out y hy
    refine ⟨a, b, by rw [List.length_append]; omega, ?_⟩
    rw [List.take_append_of_le_length (by omega)]
    exact d
  unfold rulS
  split
  · obtain ⟨u, hud⟩ : ∃ u, u = (useD used (l.a.p, patS s.2.1 l.a.args)).1 := ⟨_, rfl⟩
    have hno : NoI u := by
      rw [hud]
      exact useD_mem (P := NoI) hu (fun c r hc => by simp [dz] at hc)
    rw [← hud]
    refine ⟨hhd _, ?_, fun y hy => ?_⟩
    · rw [hdrop, cntF_app, h.cnt, List.length_append]
      have : preB (foundS px u) (fndS px) = true := by
        unfold foundS askS fndS
        rw [ByteArray.append_assoc, ByteArray.append_assoc]
        exact pre_app _ _
      simp [cntF, isF, holdsT, this]
    · rcases List.mem_append.1 hy with hy | hy
      · exact hold _ y hy
      · rw [List.mem_singleton] at hy
        subst hy
        refine ⟨ask_no px hno, hne, by simp, ?_⟩
        simp
  · refine ⟨hhd _, ?_, fun y hy => hold _ y hy⟩
    rw [hdrop, cntF_app, h.cnt]
    have : isF px l = false := by
      unfold isF
      by_cases hk : l.k = 1
      · rw [hl hk]; simp
      · simp [hk]
    simp [cntF, this]
theorem grp_all {px : ByteArray} {op : List ByteArray} {used : List D2} (hu : ∀ u ∈ used, NoI u) {g : LitT} : ∀ (ls : List LitT) (s : List LitT × List ByteArray × List RuleT), GrpI px g s → (∀ l ∈ ls, l.k = 1 → preB l.a.p (fndS px) = false) → GrpI px g (ls.foldl (rulS px op used) s)
  | [], s, h, _ => h
  | l :: ls, s, h, hl => by
    rw [List.foldl_cons]
    exact grp_all hu ls _ (grp_step hu h (hl l (List.mem_cons_self ..))) fun x hx => hl x (List.mem_cons_of_mem _ hx)
theorem rulesT_asks {px : ByteArray} {op : List ByteArray} {used : List D2} (hu : ∀ u ∈ used, NoI u) {x : RuleT} {d : D2} (hx : ∀ l ∈ x.body, l.k = 1 → preB l.a.p (fndS px) = false) : AskR px (rulesT px op used x d) := by
  have G := grp_all (px := px) (op := op) hu (g := guardT px x d) x.body (rul0 px x d) ⟨rfl, rfl, fun y hy => by cases hy⟩ hx
  unfold rulesT
  generalize x.body.foldl (rulS px op used) (rul0 px x d) = s at *
  intro A y C e hp
  have hlast : ∀ Z : List RuleT, Z ++ y :: C = [⟨⟨foundS px d, x.head.args⟩, 0, s.1⟩] → Z = [] ∧ y = ⟨⟨foundS px d, x.head.args⟩, 0, s.1⟩ := fun Z hz => by
    cases Z with
    | nil => simp only [List.nil_append, List.cons.injEq] at hz; exact ⟨rfl, hz.1⟩
    | cons z Z => simp at hz
  have fin : A = s.2.2 → y = ⟨⟨foundS px d, x.head.args⟩, 0, s.1⟩ → AskC px A y := fun hA hy => by
    subst hA hy
    refine ⟨fun h => ?_, fun l hl => ?_, ?_, fun k h1 h2 => ?_⟩
    · have := G.hd
      simp only at h
      rw [h] at this
      simp at this
    · have h0 := G.hd
      simp only at hl
      rw [h0] at hl
      obtain rfl := Option.some.inj hl
      exact ⟨rfl, d, rfl, rfl⟩
    · have := G.cnt
      simp only
      omega
    · have hc := G.cnt
      simp only at h2
      rw [hc] at h2
      have hlt : s.2.2.length - k < s.2.2.length := by omega
      obtain ⟨_, b, c, e⟩ := G.out _ (List.getElem_mem hlt)
      exact ⟨_, List.getElem?_eq_getElem hlt, b, c, e⟩
  rcases List.append_eq_append_iff.1 e with ⟨Z, e1, e2⟩ | ⟨Z, e1, e2⟩
  · obtain ⟨hz, hy⟩ := hlast Z e2.symm
    subst hz
    exact fin (by rw [e1, List.append_nil]) hy
  · cases Z with
    | nil =>
      simp only [List.nil_append] at e2
      obtain ⟨_, hy⟩ := hlast [] (by simpa using e2)
      exact fin (by rw [e1, List.append_nil]) hy
    | cons z Z =>
      simp only [List.cons_append, List.cons.injEq] at e2
      have := (G.out y (by rw [e1, e2.1]; simp)).1
      rw [hp] at this
      cases this
theorem pre_less {s px : ByteArray} (h : preB s px = false) : preB s (fndS px) = false := by
  cases hp : preB s (fndS px) with
  | false => rfl
  | true =>
    exfalso
    unfold preB at h hp
    rw [Bool.and_eq_true, decide_eq_true_eq, decide_eq_true_eq] at hp
    obtain ⟨h1, h2⟩ := hp
    have hs : (fndS px).size = px.size + 3 := by unfold fndS; rw [ByteArray.size_append]; rfl
    have e3 : ∀ n, (s.extract 0 n).data.toList = s.data.toList.take n := fun n => by simp
    have e1 : (fndS px).data.toList = px.data.toList ++ [105, 115, 95] := by unfold fndS isS; simp
    have e : s.extract 0 px.size = px := by
      have e2 := congrArg (fun b : ByteArray => b.data.toList) h2
      have e4 : s.data.toList.take (fndS px).size = px.data.toList ++ [105, 115, 95] := by rw [← e3, ← e1]; exact e2
      have e5 := congrArg (List.take px.size) e4
      rw [List.take_take, Nat.min_eq_left (by omega), List.take_append_of_le_length (by simp), List.take_of_length_le (l := px.data.toList) (by simp)] at e5
      refine ByteArray.ext (Array.toList_inj.1 ?_)
      rw [e3]
      exact e5
    rw [e] at h
    have hle : px.size ≤ s.size := by omega
    simp [hle] at h
theorem noI_pat {u : D2} {V : List ByteArray} {l : List TermT} (h : u.2 = patS V l) : NoI u := by
  intro c r hc
  rw [h] at hc
  unfold patS at hc
  simp only [List.toList_toArray] at hc
  cases l with
  | nil => cases hc
  | cons t l =>
    simp only [List.map_cons, List.cons.injEq] at hc
    rw [← hc.1]
    rcases patB_or2 (bound := V) (t := t) with h | h <;> rw [h] <;> decide
theorem demI_noI {p : ProgT} {op : List ByteArray} {D : List D2} (h : DemI p op D) : ∀ u ∈ D, NoI u := by
  intro u hu
  obtain ⟨i, hi, rfl⟩ := List.mem_iff_getElem.1 hu
  rcases h.src i _ (List.getElem?_eq_getElem hi) with rfl | ⟨r, hr, x, hx, _, V, e⟩
  · have h2 := h.head
    rw [List.getElem?_eq_getElem hi] at h2
    exact noI_pat (by rw [Option.some.inj h2])
  · exact noI_pat (V := V) (l := x.a.args) (by rw [e]; rfl)
theorem firstD_noI {p : ProgT} {used : List D2} (h : ∀ u ∈ used, NoI u) : NoI (firstD used p) :=
  useD_mem (P := NoI) h (fun c r hc => by simp [dz] at hc)
theorem rewT_asks {p : ProgT} {D : List D2} (hI : DemI p (openT p) D) (prune : Bool) : AskR (pfxT p) (rewT (pfxT p) (openT p) (usedT prune D) p).rules := by
  have hu : ∀ u ∈ usedT prune D, NoI u := fun u h => demI_noI hI u (usedT_mem h)
  rw [rewT_rules]
  refine AskR.app ?_ (AskR.no fun x hx => pre_less (baseR_no x hx))
  unfold madeR
  refine AskR.app (R := [ask0 (pfxT p) (usedT prune D) p]) (AskR.no fun x hx => ?_) (AskR.flat _ fun d _ => ?_)
  · rw [List.mem_singleton] at hx
    subst hx
    exact ask_no _ (firstD_noI hu)
  · unfold dmR
    refine AskR.flat _ fun x hx => rulesT_asks hu fun l hl hk => pre_less (pfx_no ?_)
    have hr := (List.mem_filter.1 hx).1
    exact uses_named hr hl (by unfold usesT; rw [if_pos (.inl hk)]; exact (Ord.nsort_mem Ord.linS _ _).2 (by simp))
end Go.Proofs.YtpgipdajinkdgaaGreatA

namespace Go.Proofs.YtpgipdajinkdgaaGreatA
open Go Go.RowKit
set_option linter.all false
set_option linter.unusedSectionVars false
set_option linter.constructorNameAsVariable false
set_option linter.unusedVariables false
set_option linter.unusedSimpArgs false
theorem pruS_ne (l : List D2) : ∀ (m out : List D2), (out ≠ [] ∨ ∃ d ∈ m, l.any (othB d) = false) → m.foldl (pruS l) out ≠ []
  | [], out, h => by
    rcases h with h | ⟨d, hd, _⟩
    · exact h
    · cases hd
  | x :: m, out, h => by
    rw [List.foldl_cons]
    refine pruS_ne l m _ ?_
    rcases h with h | ⟨d, hd, h⟩
    · left
      unfold pruS
      split
      · simp
      · exact h
    · rcases List.mem_cons.1 hd with rfl | hd
      · left
        unfold pruS
        rw [h]
        cases ho : out.any fun x => decide (d = x) with
        | true =>
          simp only [Bool.not_true, Bool.false_and, Bool.false_eq_true, if_false]
          intro e
          rw [e] at ho
          simp at ho
        | false => simp
      · exact .inr ⟨d, hd, h⟩
theorem least_in {α : Type} (f : α → Nat) : ∀ (l : List α), l ≠ [] → ∃ d ∈ l, ∀ x ∈ l, f d ≤ f x
  | [], h => absurd rfl h
  | [a], _ => ⟨a, by simp, fun x hx => by rw [List.mem_singleton] at hx; rw [hx]; exact Nat.le_refl _⟩
  | a :: b :: l, _ => by
    obtain ⟨d, hd, h⟩ := least_in f (b :: l) (by simp)
    by_cases hc : f a ≤ f d
    · exact ⟨a, by simp, fun x hx => by
        rcases List.mem_cons.1 hx with rfl | hx
        · exact Nat.le_refl _
        · exact Nat.le_trans hc (h x hx)⟩
    · exact ⟨d, List.mem_cons_of_mem _ hd, fun x hx => by
        rcases List.mem_cons.1 hx with rfl | hx
        · omega
        · exact h x hx⟩
def nbD (d : D2) : Nat := ((List.range d.2.size).filter fun j => decide (((byteAt d.2 j).toNat : Int) = 98)).length
theorem flt_le {α : Type} {p q : α → Bool} : ∀ (l : List α), (∀ x ∈ l, p x = true → q x = true) → (l.filter p).length ≤ (l.filter q).length ∧ ((l.filter p).length = (l.filter q).length → ∀ x ∈ l, p x = q x)
  | [], _ => ⟨Nat.le_refl _, fun _ x hx => by cases hx⟩
  | a :: l, h => by
    obtain ⟨h1, h2⟩ := flt_le l fun x hx => h x (List.mem_cons_of_mem _ hx)
    have ha := h a (List.mem_cons_self ..)
    cases hp : p a <;> cases hq : q a
    · simp only [List.filter_cons, hp, hq, Bool.false_eq_true, if_false]
      exact ⟨h1, fun e x hx => by
        rcases List.mem_cons.1 hx with rfl | hx
        · rw [hp, hq]
        · exact h2 e x hx⟩
    · simp only [List.filter_cons, hp, hq, Bool.false_eq_true, if_false, if_true, List.length_cons]
      exact ⟨by omega, fun e => by omega⟩
    · rw [ha hp] at hq
      cases hq
    · simp only [List.filter_cons, hp, hq, if_true, List.length_cons]
      exact ⟨by omega, fun e x hx => by
        rcases List.mem_cons.1 hx with rfl | hx
        · rw [hp, hq]
        · exact h2 (by omega) x hx⟩
theorem cov_less {o d : D2} (ho : plainD o.2 = true) (hd : plainD d.2 = true) (h : covD o d = true) (hne : o ≠ d) : nbD o < nbD d := by
  unfold covD at h
  simp only [Bool.and_eq_true, decide_eq_true_eq] at h
  obtain ⟨⟨h1, h2⟩, h3⟩ := h
  rw [List.all_eq_true] at h3
  unfold nbD
  rw [h2] at h3 ⊢
  obtain ⟨k1, k2⟩ := flt_le (p := fun j => decide (((byteAt o.2 j).toNat : Int) = 98)) (q := fun j => decide (((byteAt d.2 j).toNat : Int) = 98)) (List.range d.2.size) (fun j hj hp => by
    have hc := h3 j hj
    unfold covB at hc
    rw [hp] at hc
    simpa using hc)
  rcases Nat.lt_or_eq_of_le k1 with hlt | heq
  · exact hlt
  · exfalso
    apply hne
    have k3 := k2 heq
    unfold plainD at ho hd
    rw [List.all_eq_true] at ho hd
    refine Prod.ext h1 (ByteArray.ext (Array.ext h2 fun j hj1 hj2 => ?_))
    have hj : j ∈ List.range d.2.size := List.mem_range.2 hj2
    have e := k3 j hj
    have p1 := ho j (by rw [h2]; exact hj)
    have p2 := hd j hj
    have g1 : byteAt o.2 j = o.2.data[j] := by unfold byteAt; rw [List.getD_eq_getElem?_getD]; simp [Array.getElem?_eq_getElem hj1]
    have g2 : byteAt d.2 j = d.2.data[j] := by unfold byteAt; rw [List.getD_eq_getElem?_getD]; simp [Array.getElem?_eq_getElem hj2]
    unfold plainB at p1 p2
    rw [g1] at p1 e
    rw [g2] at p2 e
    simp only [Bool.or_eq_true, decide_eq_true_eq, decide_eq_decide] at p1 p2 e
    apply UInt8.toNat_inj.1
    omega
theorem demI_plain {p : ProgT} {op : List ByteArray} {D : List D2} (h : DemI p op D) : ∀ u ∈ D, plainD u.2 = true := by
  intro u hu
  obtain ⟨i, hi, rfl⟩ := List.mem_iff_getElem.1 hu
  rcases h.src i _ (List.getElem?_eq_getElem hi) with rfl | ⟨r, hr, x, hx, _, V, e⟩
  · have h2 := h.head
    rw [List.getElem?_eq_getElem hi] at h2
    rw [Option.some.inj h2]
    exact plainD_pat _ _
  · rw [e]
    exact plainD_pat _ _
theorem used_ne {p : ProgT} {op : List ByteArray} {D : List D2} (h : DemI p op D) (prune : Bool) : usedT prune D ≠ [] := by
  have h0 : D ≠ [] := fun e => by have := h.head; rw [e] at this; simp at this
  unfold usedT
  split
  · obtain ⟨d, hd, hl⟩ := least_in nbD D h0
    unfold pruneT
    refine pruS_ne D D [] (.inr ⟨d, hd, ?_⟩)
    rw [List.any_eq_false]
    intro o ho hc
    unfold othB at hc
    simp only [Bool.and_eq_true, Bool.not_eq_true', decide_eq_false_iff_not] at hc
    have := cov_less (demI_plain h o ho) (demI_plain h d hd) hc.2 hc.1
    have := hl o ho
    omega
  · exact h0
theorem some_answers {p : ProgT} {D : List D2} (hI : DemI p (openT p) D) (prune : Bool) : ∃ x ∈ (rewT (pfxT p) (openT p) (usedT prune D) p).rules, preB x.head.p (fndS (pfxT p)) = true := by
  obtain ⟨d, hd⟩ := List.exists_mem_of_ne_nil _ (used_ne hI prune)
  have ho := inS_mem (hI.pred d (usedT_mem hd))
  unfold openT at ho
  have hb := (openB_iff.1 (List.mem_filter.1 ho).2).1
  have hr : ∃ r ∈ p.rules, r.head.p = d.1 := by
    rcases Classical.em (∃ r ∈ p.rules, r.head.p = d.1) with h | h
    · exact h
    · exfalso
      have h0 : derR p.rules d.1 = 0 := by
        unfold derR
        have : p.rules.map (fun r => if r.head.p = d.1 then r.body.length else 0) = p.rules.map fun _ => 0 := List.map_congr_left fun r hr => if_neg fun e => h ⟨r, hr, e⟩
        rw [this]
        clear this hb ho hd h
        induction p.rules with
        | nil => rfl
        | cons a l ih => rw [List.map_cons, List.sum_cons, ih]
      omega
  obtain ⟨r, hr, he⟩ := hr
  refine ⟨⟨⟨foundS (pfxT p) d, r.head.args⟩, 0, (r.body.foldl (rulS (pfxT p) (openT p) (usedT prune D)) (rul0 (pfxT p) r d)).1⟩, ?_, ?_⟩
  · rw [rewT_rules]
    refine List.mem_append_left _ (List.mem_cons_of_mem _ (List.mem_flatMap.2 ⟨d, hd, ?_⟩))
    unfold dmR
    refine List.mem_flatMap.2 ⟨r, List.mem_filter.2 ⟨hr, by simp [he]⟩, ?_⟩
    unfold rulesT
    simp
  · show preB (foundS (pfxT p) d) (fndS (pfxT p)) = true
    unfold foundS askS fndS
    rw [ByteArray.append_assoc, ByteArray.append_assoc]
    exact pre_app _ _
end Go.Proofs.YtpgipdajinkdgaaGreatA
