/- A part of the proof of MagicAsks: functions of the program, run by the evaluator. -/

/- The library's sorting as it stands in this program: the contracts. -/
import Derived.Test.YtpgipdajinkdgaaGreatSrt
import Derived.Test.YtpgipdajinkdgaaGreatLays2
import Derived.Shelf.SlSortCmp.NoneTotal
import Derived.Shelf.Abstract
namespace Go.Proofs.YtpgipdajinkdgaaGreatA
open Go Go.RowKit
set_option linter.all false
set_option linter.unusedSectionVars false
set_option linter.constructorNameAsVariable false
set_option linter.unusedVariables false
theorem sortC : SortC Tryz.prog 98 := ⟨AnyM.slices_Sort_string Go.Proofs.YtpgipdajinkdgaaGreat.Lay.laysSort, AnyM.slices_Sort_string_none Go.Proofs.YtpgipdajinkdgaaGreat.Lay.laysSort⟩
theorem compactC : CompactC Tryz.prog 99 := ⟨AnyG.slices_Compact_string Go.Proofs.YtpgipdajinkdgaaGreat.Lay.laysCompact, AnyG.slices_Compact_string_empty Go.Proofs.YtpgipdajinkdgaaGreat.Lay.laysCompact⟩
theorem lt_pair2 (x y : I2) : Go.Proofs.ltOf cmpP2 x y = ltP2 x y := lt_pair x y
theorem swoP2 : Go.Sort.SWO (Go.Proofs.ltOf cmpP2) where
  irrefl x := by rw [lt_pair2]; exact linP2.irr x
  trans x y z h1 h2 := by rw [lt_pair2] at *; exact linP2.tr x y z h1 h2
  ntrans x y z h1 h2 := by
    rw [lt_pair2] at *
    have h1 := of_decide_eq_false h1
    have h2 := of_decide_eq_false h2
    exact decide_eq_false (by omega)
theorem sortFC (hc : CmpC Tryz.prog 80) : SortFC Tryz.prog 79 80 :=
  ⟨fun blk off cap l w hH hblk hsz =>
    AnyQ.slices_SortFunc_total Go.Proofs.YtpgipdajinkdgaaGreat.Lay.laysSortF 2 Tryz.isAgg115 Tryz.sizeOf115 encI2 (fun _ => rfl) (fun x v hv => by simp [encI2] at hv; rcases hv with rfl | rfl <;> rfl) cmpP2 swoP2 80 #[] blk off cap l.toArray w (enters_of Tryz.func80 (by kernel_rfl) rfl)
      (fun _ _ _ _ x y => hc x y _) hH hblk (by simpa using hsz) (fun x y h1 h2 => linP2.tot x y (by rw [← lt_pair2]; exact h1) (by rw [← lt_pair2]; exact h2)),
   fun p cap w => AnyF.slices_SortFunc_none Go.Proofs.YtpgipdajinkdgaaGreat.Lay.laysSortF p cap (.func (.func 80) #[] #[]) w⟩
end Go.Proofs.YtpgipdajinkdgaaGreatA
