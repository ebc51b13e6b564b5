/- A part of the proof of AdornAsks: functions of the program, run by the evaluator. -/

/- Terms, atoms, literals, rules, programs, as they are read. -/
import Derived.Test.YtigfnhbbfbnicaaO
namespace Go.Proofs.YtigfnhbbfbnicaaA
open Go Go.RowKit
set_option linter.all false
set_option linter.unusedSectionVars false
set_option linter.constructorNameAsVariable false
set_option linter.unusedVariables false
theorem Op.imp {t : TypeId} {Q R : List AV → Prop} (h : Op t Q) (k : ∀ x, Q x → R x) : Op t R := by
  intro H enc w base fuel spare held cs y hh
  obtain ⟨x, hx, hv⟩ := h H enc w base fuel spare held cs y hh
  exact ⟨x, k x hx, hv⟩
theorem reads_str : Op 9 (fun x => ∃ s : ByteArray, x = [.sc (.string s)]) := reads_string Try.underlying9
theorem reads_i64 {t : TypeId} (h : Try.prog.underlying t = some (.int .i64)) : Op t (fun x => ∃ n : Int, x = [.sc (.int .i64 n)]) := reads_int h
theorem reads_value : Op 45 (fun x => ∃ k n : Int, ∃ s : ByteArray, x = [.sc (.int .i64 k), .sc (.int .i64 n), .sc (.string s)]) := by
  have h := reads_struct (Q := fun i x => match i with | 0 => ∃ n : Int, x = [.sc (.int .i64 n)] | 1 => ∃ n : Int, x = [.sc (.int .i64 n)] | _ => ∃ s : ByteArray, x = [.sc (.string s)]) Try.underlying45 (by kernel_rfl) (fun i f hf => by
    match i, hf with
    | 0, hf => cases hf; exact reads_i64 Try.underlying3
    | 1, hf => cases hf; exact reads_i64 Try.underlying2
    | 2, hf => cases hf; exact reads_str
    | i + 3, hf => simp at hf)
  refine h.imp fun x ⟨xs, hl, hx, e⟩ => ?_
  match xs, hl with
  | [a, b, c], _ =>
    obtain ⟨k, rfl⟩ := hx 0 a rfl
    obtain ⟨n, rfl⟩ := hx 1 b rfl
    obtain ⟨s, rfl⟩ := hx 2 c rfl
    exact ⟨k, n, s, e⟩
theorem reads_term : Op 47 (fun x => ∃ t : TermT, x = t.c) := by
  have h := reads_struct (Q := fun i x => match i with | 0 => ∃ s : ByteArray, x = [.sc (.string s)] | _ => ∃ k n : Int, ∃ s : ByteArray, x = [.sc (.int .i64 k), .sc (.int .i64 n), .sc (.string s)]) Try.underlying47 (by kernel_rfl) (fun i f hf => by
    match i, hf with
    | 0, hf => cases hf; exact reads_str
    | 1, hf => cases hf; exact reads_value
    | i + 2, hf => simp at hf)
  refine h.imp fun x ⟨xs, hl, hx, e⟩ => ?_
  match xs, hl with
  | [a, b], _ =>
    obtain ⟨v, rfl⟩ := hx 0 a rfl
    obtain ⟨k, n, s, rfl⟩ := hx 1 b rfl
    exact ⟨⟨v, k, n, s⟩, e⟩
theorem reads_terms : Op 23 (fun x => ∃ l : List TermT, x = [mkL 4 (l.map TermT.c)]) :=
  reads_slice Try.underlying23 (by kernel_rfl) (fun _ => rfl) (fun _ => rfl) reads_term
theorem reads_atom : Op 25 (fun x => ∃ a : AtomT, x = a.c) := by
  have h := reads_struct (Q := fun i x => match i with | 0 => ∃ s : ByteArray, x = [.sc (.string s)] | _ => ∃ l : List TermT, x = [mkL 4 (l.map TermT.c)]) Try.underlying25 (by kernel_rfl) (fun i f hf => by
    match i, hf with
    | 0, hf => cases hf; exact reads_str
    | 1, hf => cases hf; exact reads_terms
    | i + 2, hf => simp at hf)
  refine h.imp fun x ⟨xs, hl, hx, e⟩ => ?_
  match xs, hl with
  | [a, b], _ =>
    obtain ⟨v, rfl⟩ := hx 0 a rfl
    obtain ⟨l, rfl⟩ := hx 1 b rfl
    exact ⟨⟨v, l⟩, e⟩
theorem reads_step : Op 79 (fun x => ∃ a : StepT, x = a.c) := by
  have h := reads_struct (Q := fun i x => match i with | 0 => ∃ n : Int, x = [.sc (.int .i64 n)] | _ => ∃ s : ByteArray, x = [.sc (.string s)]) Try.underlying79 (by kernel_rfl) (fun i f hf => by
    match i, hf with
    | 0, hf => cases hf; exact reads_i64 Try.underlying3
    | 1, hf => cases hf; exact reads_str
    | i + 2, hf => simp at hf)
  refine h.imp fun x ⟨xs, hl, hx, e⟩ => ?_
  match xs, hl with
  | [a, b], _ =>
    obtain ⟨v, rfl⟩ := hx 0 a rfl
    obtain ⟨l, rfl⟩ := hx 1 b rfl
    exact ⟨⟨v, l⟩, e⟩
theorem reads_steps : Op 48 (fun x => ∃ l : List StepT, x = [mkL 2 (l.map StepT.c)]) :=
  reads_slice Try.underlying48 (by kernel_rfl) (fun _ => rfl) (fun _ => rfl) reads_step
theorem reads_lit : Op 50 (fun x => ∃ l : LitT, x = l.c) := by
  have h := reads_struct (Q := fun i x => match i with | 0 => ∃ n : Int, x = [.sc (.int .i64 n)] | 1 => ∃ a : AtomT, x = a.c | 2 => ∃ s : ByteArray, x = [.sc (.string s)] | 3 => ∃ t : TermT, x = t.c | 4 => ∃ t : TermT, x = t.c | 5 => ∃ t : TermT, x = t.c | _ => ∃ l : List StepT, x = [mkL 2 (l.map StepT.c)]) Try.underlying50 (by kernel_rfl) (fun i f hf => by
    match i, hf with
    | 0, hf => cases hf; exact reads_i64 Try.underlying3
    | 1, hf => cases hf; exact reads_atom
    | 2, hf => cases hf; exact reads_str
    | 3, hf => cases hf; exact reads_term
    | 4, hf => cases hf; exact reads_term
    | 5, hf => cases hf; exact reads_term
    | 6, hf => cases hf; exact reads_steps
    | i + 7, hf => simp at hf)
  refine h.imp fun x ⟨xs, hl, hx, e⟩ => ?_
  match xs, hl with
  | [a, b, c, d, f, g, i], _ =>
    obtain ⟨k, rfl⟩ := hx 0 a rfl
    obtain ⟨at_, rfl⟩ := hx 1 b rfl
    obtain ⟨op, rfl⟩ := hx 2 c rfl
    obtain ⟨A, rfl⟩ := hx 3 d rfl
    obtain ⟨B, rfl⟩ := hx 4 f rfl
    obtain ⟨C, rfl⟩ := hx 5 g rfl
    obtain ⟨p, rfl⟩ := hx 6 i rfl
    exact ⟨⟨k, at_, op, A, B, C, p⟩, e⟩
theorem lit_one (l : LitT) : l.c.all one = true := by simp [LitT.c, one_mkL, one_sc, Value.oneCell']
theorem reads_lits : Op 41 (fun x => ∃ l : List LitT, x = [mkL 17 (l.map LitT.c)]) :=
  reads_slice Try.underlying41 (by kernel_rfl) (fun _ => rfl) lit_one reads_lit
theorem reads_rule : Op 43 (fun x => ∃ l : RuleT, x = l.c) := by
  have h := reads_struct (Q := fun i x => match i with | 0 => ∃ a : AtomT, x = a.c | 1 => ∃ n : Int, x = [.sc (.int .i64 n)] | _ => ∃ l : List LitT, x = [mkL 17 (l.map LitT.c)]) Try.underlying43 (by kernel_rfl) (fun i f hf => by
    match i, hf with
    | 0, hf => cases hf; exact reads_atom
    | 1, hf => cases hf; exact reads_i64 Try.underlying3
    | 2, hf => cases hf; exact reads_lits
    | i + 3, hf => simp at hf)
  refine h.imp fun x ⟨xs, hl, hx, e⟩ => ?_
  match xs, hl with
  | [a, b, c], _ =>
    obtain ⟨at_, rfl⟩ := hx 0 a rfl
    obtain ⟨n, rfl⟩ := hx 1 b rfl
    obtain ⟨l, rfl⟩ := hx 2 c rfl
    exact ⟨⟨at_, n, l⟩, e⟩
theorem rule_one (l : RuleT) : l.c.all one = true := by simp [RuleT.c, one_mkL, one_sc, Value.oneCell']
theorem reads_rules : Op 22 (fun x => ∃ l : List RuleT, x = [mkL 4 (l.map RuleT.c)]) :=
  reads_slice Try.underlying22 (by kernel_rfl) (fun _ => rfl) rule_one reads_rule
theorem reads_prog : Op 27 (fun x => ∃ p : ProgT, x = p.c) := by
  have h := reads_struct (Q := fun i x => match i with | 0 => ∃ l : List RuleT, x = [mkL 4 (l.map RuleT.c)] | _ => ∃ a : AtomT, x = a.c) Try.underlying27 (by kernel_rfl) (fun i f hf => by
    match i, hf with
    | 0, hf => cases hf; exact reads_rules
    | 1, hf => cases hf; exact reads_atom
    | i + 2, hf => simp at hf)
  refine h.imp fun x ⟨xs, hl, hx, e⟩ => ?_
  match xs, hl with
  | [a, b], _ =>
    obtain ⟨v, rfl⟩ := hx 0 a rfl
    obtain ⟨l, rfl⟩ := hx 1 b rfl
    exact ⟨⟨v, l⟩, e⟩
end Go.Proofs.YtigfnhbbfbnicaaA
