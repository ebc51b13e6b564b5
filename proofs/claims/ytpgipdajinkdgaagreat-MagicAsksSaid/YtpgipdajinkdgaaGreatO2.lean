/- A law's arguments, read as data, as the evaluator's values tell them; a run is a call; the program fits. -/
import Derived.Test.YtpgipdajinkdgaaGreatA
import Derived.OpenShut
import Derived.ChangeArms
import Derived.DataReads
import Derived.Below
namespace Go.Proofs.YtpgipdajinkdgaaGreatA
open Go Go.RowKit
set_option linter.all false
set_option linter.unusedSectionVars false
set_option linter.constructorNameAsVariable false
set_option linter.unusedVariables false
set_option linter.unusedSimpArgs false
def nF : Nat → Prop := fun _ => False
def Op (t : TypeId) (Q : List AV → Prop) : Prop := ∀ (H : Type) (enc : TypeId × Value → H) (w : World) (base fuel : Nat) (spare : Nat → Bool) (held : Bool) (cs : List Value) (y : DataW H × List MemPlace), DataW.trod enc Tryz.prog w base spare held fuel t cs = some y → ∃ x, Q x ∧ VRL w nF BM.none x cs
theorem reads_string {t : TypeId} (ht : Tryz.prog.underlying t = some .string) : Op t (fun x => ∃ s : ByteArray, x = [.sc (.string s)]) := by
  intro H enc w base fuel spare held cs y h
  obtain ⟨s, rfl, _⟩ := DataW.trod_string ht h
  exact ⟨_, ⟨s, rfl⟩, by simp only [VRL, VR]; exact ⟨_, _, rfl, rfl, rfl⟩⟩
theorem reads_int {t : TypeId} {k : IntKind} (ht : Tryz.prog.underlying t = some (.int k)) : Op t (fun x => ∃ n : Int, x = [.sc (.int k n)]) := by
  intro H enc w base fuel spare held cs y h
  obtain ⟨n, rfl, _⟩ := DataW.trod_int ht h
  exact ⟨_, ⟨n, rfl⟩, by simp only [VRL, VR]; exact ⟨_, _, rfl, rfl, rfl⟩⟩
def offOk (P : Program) : List Field → Nat → Option Nat
  | [], n => some n
  | f :: fs, n => bif Nat.beq f.offset n then offOk P fs (n + P.cellsOf f.type) else none
theorem fields_read {w : World} {cs : List Value} {Q : Nat → List AV → Prop} : ∀ (fs : List Field) (k off tot : Nat), offOk Tryz.prog fs off = some tot → cs.length = tot →
    (∀ i f, fs[i]? = some f → ∃ x, Q (k + i) x ∧ VRL w nF BM.none x ((cs.drop f.offset).take (Tryz.prog.cellsOf f.type))) →
    ∃ xs : List (List AV), xs.length = fs.length ∧ (∀ i z, xs[i]? = some z → Q (k + i) z) ∧ VRL w nF BM.none xs.flatten (cs.drop off)
  | [], k, off, tot, h, hl, _ => by
    simp only [offOk, Option.some.injEq] at h
    subst h
    refine ⟨[], rfl, fun i z hz => by simp at hz, ?_⟩
    rw [List.drop_eq_nil_of_le (by omega)]
    simp only [List.flatten_nil, VRL]
  | f :: fs, k, off, tot, h, hl, hf => by
    simp only [offOk] at h
    cases hb : Nat.beq f.offset off with
    | false => rw [hb] at h; cases h
    | true =>
      rw [hb] at h
      simp only [cond_true] at h
      have ho := Nat.eq_of_beq_eq_true hb
      obtain ⟨x, hx, hv⟩ := hf 0 f rfl
      obtain ⟨xs, h1, h2, h3⟩ := fields_read fs (k + 1) (off + Tryz.prog.cellsOf f.type) tot h hl (fun i g hg => by
        have := hf (i + 1) g (by simpa using hg)
        rwa [show k + (i + 1) = k + 1 + i by omega] at this)
      refine ⟨x :: xs, by simp [h1], fun i z hz => ?_, ?_⟩
      · cases i with
        | zero => simp only [List.getElem?_cons_zero, Option.some.injEq] at hz; subst hz; exact hx
        | succ i => simp only [List.getElem?_cons_succ] at hz; have := h2 i z hz; rwa [show k + 1 + i = k + (i + 1) by omega] at this
      · rw [List.flatten_cons, ← List.take_append_drop (Tryz.prog.cellsOf f.type) (cs.drop off)]
        refine VRL.append ?_ ?_
        · rw [← ho]; exact hv
        · rw [List.drop_drop]; exact h3
theorem reads_struct {t : TypeId} {fs : Array Field} {Q : Nat → List AV → Prop} (ht : Tryz.prog.underlying t = some (.struct fs)) (ho : offOk Tryz.prog fs.toList 0 = some (Tryz.prog.cellsOf t)) (hQ : ∀ i f, fs[i]? = some f → Op f.type (Q i)) :
    Op t (fun x => ∃ xs : List (List AV), xs.length = fs.size ∧ (∀ i z, xs[i]? = some z → Q i z) ∧ x = xs.flatten) := by
  intro H enc w base fuel spare held cs y h
  obtain ⟨ys, n, _, _, hl, hx, hel⟩ := DataW.trod_struct ht h
  obtain ⟨xs, h1, h2, h3⟩ := fields_read (w := w) (cs := cs) (Q := Q) fs.toList 0 0 _ ho hl (fun i f hf => by
    have hf' : fs[i]? = some f := by simpa using hf
    have := hel i f hf'
    have hi : i < ys.length := by
      rw [hx]
      rcases Nat.lt_or_ge i fs.size with h' | h'
      · exact h'
      · rw [Array.getElem?_eq_none h'] at hf'; cases hf'
    rw [List.getElem?_eq_getElem hi] at this
    rw [Nat.zero_add]
    exact hQ i f hf' _ _ _ _ _ _ _ _ _ this)
  refine ⟨xs.flatten, ⟨xs, by simpa using h1, fun i z hz => by have := h2 i z hz; rwa [Nat.zero_add] at this, rfl⟩, ?_⟩
  rwa [List.drop_zero] at h3
theorem exists_list {α : Type} {Q : Nat → α → Prop} : ∀ (n : Nat), (∀ i, i < n → ∃ x, Q i x) → ∃ xs : List α, xs.length = n ∧ ∀ (i : Nat) x, xs[i]? = some x → Q i x
  | 0, _ => ⟨[], rfl, fun i x h => by simp at h⟩
  | n + 1, h => by
    obtain ⟨xs, hl, hx⟩ := exists_list n fun i hi => h i (by omega)
    obtain ⟨x, hq⟩ := h n (by omega)
    refine ⟨xs ++ [x], by simp [hl], fun i y hy => ?_⟩
    by_cases hi : i < n
    · rw [List.getElem?_append_left (by omega)] at hy
      exact hx i y hy
    · rw [List.getElem?_append_right (by omega)] at hy
      have : i = n := by
        have := List.getElem?_eq_some_iff.1 hy
        obtain ⟨h1, _⟩ := this
        simp at h1
        omega
      subst this
      rw [hl, Nat.sub_self] at hy
      simp at hy
      subst hy
      exact hq
theorem add2 (a : Addr) (m n : Nat) : (a.add m).add n = a.add (m + n) := add_add a m n
theorem rows_read {α : Type} {w : World} {a : Addr} {E : α → List AV} {sz : Nat} (hlen : ∀ x, (E x).length = sz) : ∀ (l : List (α × List Value)) (off : Nat), (∀ (i : Nat) p, l[i]? = some p → VRL w nF BM.none (E p.1) p.2 ∧ ∀ (j : Nat) y, p.2[j]? = some y → w.cell? (a.add (off + i * sz + j)) = some y) →
    VRR w nF (l.map fun p => E p.1) (l.map (·.2)).flatten ∧ ∀ (j : Nat) y, (l.map (·.2)).flatten[j]? = some y → w.cell? (a.add (off + j)) = some y
  | [], off, _ => ⟨by simp only [List.map_nil, VRR]; rfl, fun j y h => by simp at h⟩
  | p :: l, off, h => by
    obtain ⟨h0, h1⟩ := h 0 p rfl
    have hp : p.2.length = sz := by rw [h0.length, hlen]
    obtain ⟨i1, i2⟩ := rows_read hlen l (off + sz) (fun i q hq => by
      have := h (i + 1) q (by simpa using hq)
      refine ⟨this.1, fun j y hj => ?_⟩
      have h3 := this.2 j y hj
      rwa [Nat.add_mul, Nat.one_mul, show off + (i * sz + sz) + j = off + sz + i * sz + j by omega] at h3)
    refine ⟨?_, fun j y hj => ?_⟩
    · simp only [List.map_cons, VRR]
      exact ⟨p.2, _, rfl, h0, i1⟩
    · simp only [List.map_cons, List.flatten_cons] at hj
      by_cases hlt : j < sz
      · rw [List.getElem?_append_left (by omega)] at hj
        have := h1 j y hj
        rwa [Nat.zero_mul, Nat.add_zero] at this
      · rw [List.getElem?_append_right (by omega)] at hj
        have := i2 _ y hj
        rwa [hp, show off + sz + (j - sz) = off + j by omega] at this
theorem reads_slice {α : Type} {E : α → List AV} {t e : TypeId} {sz : Nat} (hu : Tryz.prog.underlying t = some (.slice e)) (hc : Tryz.prog.cellsOf e = sz) (hlen : ∀ x, (E x).length = sz) (hon : ∀ x, (E x).all one = true) (hE : Op e (fun x => ∃ a : α, x = E a)) :
    Op t (fun x => ∃ l : List α, x = [mkL sz (l.map E)]) := by
  intro H enc w base fuel spare held cs y h
  rcases DataW.trod_slice hu h with ⟨hcs, _⟩ | ⟨a, len, cap, elems, rest, m, _, hcs, _, hb, hl, hm, hn, hel, _⟩
  · subst hcs
    refine ⟨_, ⟨[], rfl⟩, ?_⟩
    simp only [VRL]
    exact ⟨_, _, rfl, VR.empty, rfl⟩
  · subst hcs
    obtain ⟨l, hll, hq⟩ := exists_list (α := α × List Value) (Q := fun i p => VRL w nF BM.none (E p.1) p.2 ∧ ∀ (j : Nat) y, p.2[j]? = some y → w.cell? (a.add (0 + i * sz + j)) = some y) len (by
      intro i hi
      have := hel i hi
      rw [List.getElem?_eq_getElem (by omega), Option.bind_eq_some_iff] at this
      obtain ⟨c, hc1, hc2⟩ := this
      obtain ⟨_, hcl, hcell⟩ := World.cells?_some hc1
      obtain ⟨x, ⟨d, rfl⟩, hv⟩ := hE H enc w base m spare held c _ hc2
      refine ⟨(d, c), hv, fun j y hj => ?_⟩
      have hjl : j < c.length := by rcases Nat.lt_or_ge j c.length with h' | h'; exact h'; rw [List.getElem?_eq_none h'] at hj; cases hj
      have := hcell j (by omega)
      rw [add2, hc] at this
      rw [Nat.zero_add, this]
      exact hj)
    obtain ⟨h1, h2⟩ := rows_read (w := w) (a := a) hlen l 0 hq
    have hone : ∀ y ∈ (l.map (·.2)).flatten, y.oneCell' = true := by
      intro y hy
      obtain ⟨c, hc1, hy⟩ := List.mem_flatten.1 hy
      obtain ⟨p, hp, rfl⟩ := List.mem_map.1 hc1
      obtain ⟨i, hi, rfl⟩ := List.mem_iff_getElem.1 hp
      exact one_cell (hq i _ (List.getElem?_eq_getElem hi)).1 (hon _) y hy
    refine ⟨_, ⟨l.map (·.1), rfl⟩, ?_⟩
    simp only [VRL]
    refine ⟨_, _, rfl, mkL_ok ?_, rfl⟩
    simp only [VR]
    refine ⟨some a, cap, (l.map (·.2)).flatten, by simp [hll], by simp [hll]; exact hl, fun r hr => ?_, by simpa [List.map_map, Function.comp_def] using h1, hone, .inr ⟨a, rfl, fun hf => hf.elim, fun j y hj => by have := h2 j y hj; rwa [Nat.zero_add] at this⟩⟩
    obtain ⟨x, _, rfl⟩ := List.mem_map.1 hr
    exact hlen x
theorem forb_none {B : BM} (hB : B = BM.none) : Forb nF B = nF := by
  funext i
  apply propext
  constructor
  · rintro (h | ⟨b, v, c, h⟩)
    · exact h
    · rw [hB] at h; cases h
  · exact fun h => .inl h
def fitB (P : Program) (C : Cfg) : Bool := (List.range P.funcs.size).all fun f => match P.funcs[f]? with
  | some fn => fn.name != "runtime.NumGoroutine" && (!C.use f || (match fn.body with | some c => regs (okDraw P (pureOf C.mode)) (C.dyn f) c | none => true))
  | none => true
theorem Fit.of {P : Program} {C : Cfg} (hm : P.follows .mixedOrders = true) (hp : ∀ f, C.prim f = none) (h : fitB P C = true) : Fit P C where
  mix := hm
  name f fn hf := by
    have hlt : f < P.funcs.size := by rcases Nat.lt_or_ge f P.funcs.size with h | h; exact h; rw [Array.getElem?_eq_none h] at hf; cases hf
    have := List.all_eq_true.1 h f (by simpa using hlt)
    rw [hf] at this
    simp only [Bool.and_eq_true, bne_iff_ne] at this
    exact this.1
  use f fn c hu hf hb := by
    have hlt : f < P.funcs.size := by rcases Nat.lt_or_ge f P.funcs.size with h | h; exact h; rw [Array.getElem?_eq_none h] at hf; cases hf
    have := List.all_eq_true.1 h f (by simpa using hlt)
    rw [hf] at this
    simp only [Bool.and_eq_true, hu, hb, Bool.not_true, Bool.false_or] at this
    exact this.2
  prim f p args H r H' hf := by rw [hp f] at hf; cases hf
theorem call_of (fit : Fit Tryz.prog cf) {k : Nat} {f : FuncId} {args : List AV} {u : Value} {H1 : List Blk} {w : World} {vs : List Value} (h : arun Tryz.prog cf k f args [] = some (.sc u, H1)) (hv : VRL w nF BM.none args vs) :
    Calls Tryz.prog f vs.toArray w fun e w' => e = .returned u ∧ Below w.heap.size w w' := by
  have hok := (right fit k f args [] (.sc u) H1 h).2
  refine (hok w nF BM.none vs (HR.empty (fun i hi => hi.elim)) (fun b hb => by cases hb) (by rw [forb_none rfl]; exact hv)).mono ?_
  rintro e w' ⟨v, B1, rfl, hE, _, _, hr⟩
  simp only [VR] at hr
  rw [hr]
  exact ⟨rfl, ⟨hE.os, hE.tape, hE.output, hE.size, fun i hi => (hE.keep i hi none_own).1⟩⟩
end Go.Proofs.YtpgipdajinkdgaaGreatA

namespace Go.Proofs.YtpgipdajinkdgaaGreatA
open Go Go.RowKit
set_option linter.all false
set_option linter.unusedSectionVars false
set_option linter.constructorNameAsVariable false
set_option linter.unusedVariables false
theorem Op.imp {t : TypeId} {Q R : List AV → Prop} (h : Op t Q) (k : ∀ x, Q x → R x) : Op t R := by
  intro H enc w base fuel spare held cs y hh
  obtain ⟨x, hx, hv⟩ := h H enc w base fuel spare held cs y hh
  exact ⟨x, k x hx, hv⟩
theorem reads_str : Op 9 (fun x => ∃ s : ByteArray, x = [.sc (.string s)]) := reads_string Tryz.underlying9
theorem reads_i64 {t : TypeId} (h : Tryz.prog.underlying t = some (.int .i64)) : Op t (fun x => ∃ n : Int, x = [.sc (.int .i64 n)]) := reads_int h
theorem reads_value : Op 33 (fun x => ∃ k n : Int, ∃ s : ByteArray, x = [.sc (.int .i64 k), .sc (.int .i64 n), .sc (.string s)]) := by
  have h := reads_struct (Q := fun i x => match i with | 0 => ∃ n : Int, x = [.sc (.int .i64 n)] | 1 => ∃ n : Int, x = [.sc (.int .i64 n)] | _ => ∃ s : ByteArray, x = [.sc (.string s)]) Tryz.underlying33 (by kernel_rfl) (fun i f hf => by
    match i, hf with
    | 0, hf => cases hf; exact reads_i64 Tryz.underlying3
    | 1, hf => cases hf; exact reads_i64 Tryz.underlying2
    | 2, hf => cases hf; exact reads_str
    | i + 3, hf => simp at hf)
  refine h.imp fun x ⟨xs, hl, hx, e⟩ => ?_
  match xs, hl with
  | [a, b, c], _ =>
    obtain ⟨k, rfl⟩ := hx 0 a rfl
    obtain ⟨n, rfl⟩ := hx 1 b rfl
    obtain ⟨s, rfl⟩ := hx 2 c rfl
    exact ⟨k, n, s, e⟩
theorem reads_term : Op 35 (fun x => ∃ t : TermT, x = t.c) := by
  have h := reads_struct (Q := fun i x => match i with | 0 => ∃ s : ByteArray, x = [.sc (.string s)] | _ => ∃ k n : Int, ∃ s : ByteArray, x = [.sc (.int .i64 k), .sc (.int .i64 n), .sc (.string s)]) Tryz.underlying35 (by kernel_rfl) (fun i f hf => by
    match i, hf with
    | 0, hf => cases hf; exact reads_str
    | 1, hf => cases hf; exact reads_value
    | i + 2, hf => simp at hf)
  refine h.imp fun x ⟨xs, hl, hx, e⟩ => ?_
  match xs, hl with
  | [a, b], _ =>
    obtain ⟨v, rfl⟩ := hx 0 a rfl
    obtain ⟨k, n, s, rfl⟩ := hx 1 b rfl
    exact ⟨⟨v, k, n, s⟩, e⟩
theorem reads_terms : Op 24 (fun x => ∃ l : List TermT, x = [mkL 4 (l.map TermT.c)]) :=
  reads_slice Tryz.underlying24 (by kernel_rfl) (fun _ => rfl) (fun _ => rfl) reads_term
theorem lit_one (l : LitT) : l.c.all one = true := by simp [LitT.c, one_mkL, one_sc, Value.oneCell']
theorem rule_one (l : RuleT) : l.c.all one = true := by simp [RuleT.c, one_mkL, one_sc, Value.oneCell']
end Go.Proofs.YtpgipdajinkdgaaGreatA
