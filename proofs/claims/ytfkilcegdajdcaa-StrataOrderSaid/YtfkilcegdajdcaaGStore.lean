
/- A whole struct's load, its store into a variable's block, and a new variable: each as one event. -/
import Derived.Test.YtfkilcegdajdcaaPZx0
import Derived.Laws.Tables
import Derived.Laws.Rows
namespace Go.Proofs.Ytfkilcegdajdcaa.PZ
open Go.RowKit Go.Proofs.YtfkilcegdajdcaaW.PrintWords Go.Proofs.YtfkilcegdajdcaaW.PrintLast Go.Proofs.YtfkilcegdajdcaaW.PrintMore
theorem store_row {P : Program} {o : Oper} {ev : Operand → Value} {w : World} {g : Nat} {t t' : TypeId} {old cells : Array Value} {p q : Operand} (ho : o.op = .store t p q) (hp : ev p = .pointer (some ⟨g, 0, none⟩)) (hq : ev q = .agg cells)
    (hg : w.heap[g]? = some (.cells old t' (0, 0))) (hi : (P.info? t).map (·.size) = some cells.size) (hs : old.size = cells.size) (h1 : ∀ v ∈ cells.toList, v.oneCell' = true) : (execOp ev o).run P w = .ok .skip (w.setRow g cells) := by
  unfold execOp
  rw [ho]
  simp only [hp, hq, Instr.storeAt, Instr.sureAddr, Sem.run_bind, Sem.run_pure, Result.andThen, run_storeVar_row w g t' t old cells hg hi hs (by rw [← Array.all_toList, List.all_eq_true]; exact h1)]
theorem load_cells {P : Program} {o : Oper} {ev : Operand → Value} {w : World} {t : TypeId} {a : Addr} {c : List Value} {p : Operand} (ho : o.op = .load t p) (hp : ev p = .pointer (some a)) (hagg : (isAgg t).run P w = .ok true w) (hsz : (sizeOf t).run P w = .ok c.length w)
    (hc : ∀ j u, c[j]? = some u → w.cell? (a.add j) = some u) : (execOp ev o).run P w = .ok (.value (.agg c.toArray)) w := by
  unfold execOp
  rw [ho]
  simp only [hp, Instr.loadAt, Instr.sureAddr, Sem.run_bind, Sem.run_pure, Result.andThen, loadVar, hagg, hsz, if_true, run_loadCells_list (P := P) w a c hc]
theorem add_add (a : Addr) (i j : Nat) : (a.add i).add j = a.add (i + j) := by
  unfold Addr.add
  by_cases hi : i = 0
  · subst hi
    rw [Nat.zero_add]
    simp
  · by_cases hj : j = 0
    · subst hj
      simp [hi]
    · simp [hi, hj, Nat.add_assoc]
theorem box_cells {w : World} {g : Nat} {t : TypeId} {c : List Value} (h : w.heap[g]? = some (.cells c.toArray t (0, 0))) : ∀ j u, c[j]? = some u → w.cell? ((⟨g, 0, none⟩ : Addr).add j) = some u := by
  intro j u hj
  have hadd : (⟨g, 0, none⟩ : Addr).add j = ⟨g, j, none⟩ := by unfold Addr.add; split <;> simp_all
  rw [hadd, cell_of_row w g j c.toArray t (0, 0) h]
  simpa using hj
theorem set_row_at {w : World} {g : Nat} {t : TypeId} {old cells : Array Value} (hg : w.heap[g]? = some (.cells old t (0, 0))) : (w.setRow g cells).heap[g]? = some (.cells cells t (0, 0)) := setRow_heap w g old cells t (0, 0) hg
theorem set_row_below {w a : World} {B g : Nat} (cells : Array Value) (h : Below B a w) (hg : B ≤ g) : Below B a (w.setRow g cells) :=
  h.trans ⟨rfl, rfl, rfl, by simp [World.setRow], fun k hk => setRow_other w g k _ (by omega)⟩
theorem size46 : (Try.prog.info? 46).map (·.size) = some 17 := by kernel_rfl
def zs46 : Array Value := #[.int .i64 0, .string ⟨#[]⟩, .slice none 0 0, .string ⟨#[]⟩, .string ⟨#[]⟩, .int .i64 0, .int .i64 0, .string ⟨#[]⟩, .string ⟨#[]⟩, .int .i64 0, .int .i64 0, .string ⟨#[]⟩, .string ⟨#[]⟩, .int .i64 0, .int .i64 0, .string ⟨#[]⟩, .slice none 0 0]
theorem alloc46 {o : Oper} {ev : Operand → Value} {W : World} (ho : o.op = .alloc 46) : (execOp ev o).run Try.prog W = .ok (.value (.pointer (some ⟨W.heap.size, 0, none⟩))) (W.alloc (.cells zs46 46 (0, 0))) := by
  unfold execOp
  rw [ho]
  go_simp
  rfl
end Go.Proofs.Ytfkilcegdajdcaa.PZ
