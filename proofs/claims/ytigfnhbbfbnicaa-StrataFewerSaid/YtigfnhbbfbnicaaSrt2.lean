/- A part of the proof of StrataFewer: functions of the program, run by the evaluator. -/

/- The library's sorting as it stands in this program: the contracts. -/
import Derived.Test.YtigfnhbbfbnicaaSrt
import Derived.Test.YtigfnhbbfbnicaaLays2
import Derived.Shelf.SlSortCmp.NoneTotal
import Derived.Shelf.Abstract
namespace Go.Proofs.YtigfnhbbfbnicaaA
open Go Go.RowKit
set_option linter.all false
set_option linter.unusedSectionVars false
set_option linter.constructorNameAsVariable false
set_option linter.unusedVariables false
theorem sortC : SortC Try.prog 57 := ⟨AnyM.slices_Sort_string Go.Proofs.Ytigfnhbbfbnicaa.Lay.laysSort, AnyM.slices_Sort_string_none Go.Proofs.Ytigfnhbbfbnicaa.Lay.laysSort⟩
theorem compactC : CompactC Try.prog 58 := ⟨AnyG.slices_Compact_string Go.Proofs.Ytigfnhbbfbnicaa.Lay.laysCompact, AnyG.slices_Compact_string_empty Go.Proofs.Ytigfnhbbfbnicaa.Lay.laysCompact⟩
theorem lt_pair2 (x y : I2) : Go.Proofs.ltOf cmpP2 x y = ltP2 x y := lt_pair x y
theorem swoP2 : Go.Sort.SWO (Go.Proofs.ltOf cmpP2) where
  irrefl x := by rw [lt_pair2]; exact linP2.irr x
  trans x y z h1 h2 := by rw [lt_pair2] at *; exact linP2.tr x y z h1 h2
  ntrans x y z h1 h2 := by
    rw [lt_pair2] at *
    have h1 := of_decide_eq_false h1
    have h2 := of_decide_eq_false h2
    exact decide_eq_false (by omega)
theorem sortFC (hc : CmpC Try.prog 34) : SortFC Try.prog 33 34 :=
  ⟨fun blk off cap l w hH hblk hsz =>
    AnyQ.slices_SortFunc_total Go.Proofs.Ytigfnhbbfbnicaa.Lay.laysSortF 2 Try.isAgg40 Try.sizeOf40 encI2 (fun _ => rfl) (fun x v hv => by simp [encI2] at hv; rcases hv with rfl | rfl <;> rfl) cmpP2 swoP2 34 #[] blk off cap l.toArray w (enters_of Try.func34 (by kernel_rfl) rfl)
      (fun _ _ _ _ x y => hc x y _) hH hblk (by simpa using hsz) (fun x y h1 h2 => linP2.tot x y (by rw [← lt_pair2]; exact h1) (by rw [← lt_pair2]; exact h2)),
   fun p cap w => AnyF.slices_SortFunc_none Go.Proofs.Ytigfnhbbfbnicaa.Lay.laysSortF p cap (.func (.func 34) #[] #[]) w⟩
end Go.Proofs.YtigfnhbbfbnicaaA
