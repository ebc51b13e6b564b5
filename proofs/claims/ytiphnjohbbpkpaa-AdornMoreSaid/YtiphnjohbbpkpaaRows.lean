/-
  No cell of these rows narrows 'for every input' (looked for: loops, veiled, ifaces, maps, wideKeys, modest, calm, conditions, laid).
  DERIVED. THE GIVEN ROWS OF THIS SEAT. 4 by the template 'for every input the law returns true; each argument reads behind the call as it read before'; 0 by the template 'total and deterministic' (their statements: YtiphnjohbbpkpaaTotals.lean).
  GIVEN WITH THE SEED: the statements are not yours to turn. If you find one false, say at which input.
  Laid BY PROGRAM, IN A SANDBOX (cutbox-rows.mjs): the forced cells as the released guide's own fill.sh prints them over the translation 0cea52c554c24f1c… (all of the seat's roots in one cut). By AI agents, Wed Nov 11 2026. No macro, syntax, notation, axiom, sorry.
-/
import Derived.Test.YtiphnjohbbpkpaaChecked
import GoSem.Claim
import GoSem.ClaimJoined
import GoSem.ClaimMapViews
import Derived.JoinedTies
import Derived.KernelRfl
namespace Go.Proofs.Ytiphnjohbbpkpaa
/- THE CELL 'sum', in the pinned program and in every row, IS THE sha256 OF THE DUMP (.gsa) THAT YtiphnjohbbpkpaaProg.lean LOADS. Nothing in Lean hashes anything: it is a label: what it is worth is what the hold of that sum in a sandbox is worth. -/
noncomputable def Try.pinned : Pinned := { name := "ytiphnjohbbpkpaa", sum := "0cea52c554c24f1c6f8ee6427684feaa13fd0f52cbceac64f78cf3fa7816eada", checked := Try.checked }
namespace Rows
def none {H : Type} : Left H := { results := [], args := [] }

/-- 'antecedentlaw16.AdornPrunes': WHATEVER THE INPUT: true; the input reads as it did. -/
def adornPrunesSpec : ChangeSpec := { name := "adornPrunes", fn := fun _ => fun
  | [d1, d2] => { results := [.lit (.bool true)], args := [d1, d2] }
  | _ => none }
def adornPrunesRow : OpenClaim := { program := "ytiphnjohbbpkpaa", sum := "0cea52c554c24f1c6f8ee6427684feaa13fd0f52cbceac64f78cf3fa7816eada", func := "antecedent/antecedentlaw16.AdornPrunes", spec := "adornPrunes", inPlace := ["internal/abi.NoEscape"], unfollowed := true, recurses := true, apart := false }
def AdornPrunesSaid : Prop := adornPrunesRow.holds Try.pinned (OpenSpec.ofChange adornPrunesSpec)

/-- ITS FALSE NEIGHBOUR: 'it returns false'. Refute it at one input. -/
def adornPrunesWrong : ChangeSpec := { name := "adornPrunes", fn := fun _ => fun
  | [d1, d2] => { results := [.lit (.bool false)], args := [d1, d2] }
  | _ => none }
def AdornPrunesWrongFalsely : Prop := adornPrunesRow.holds Try.pinned (OpenSpec.ofChange adornPrunesWrong)

/-- 'antecedentlaw16.AdornCovers': WHATEVER THE INPUT: true; the input reads as it did. -/
def adornCoversSpec : ChangeSpec := { name := "adornCovers", fn := fun _ => fun
  | [d] => { results := [.lit (.bool true)], args := [d] }
  | _ => none }
def adornCoversRow : OpenClaim := { program := "ytiphnjohbbpkpaa", sum := "0cea52c554c24f1c6f8ee6427684feaa13fd0f52cbceac64f78cf3fa7816eada", func := "antecedent/antecedentlaw16.AdornCovers", spec := "adornCovers", inPlace := ["internal/abi.NoEscape"], unfollowed := true, recurses := true, apart := false }
def AdornCoversSaid : Prop := adornCoversRow.holds Try.pinned (OpenSpec.ofChange adornCoversSpec)

/-- ITS FALSE NEIGHBOUR: 'it returns false'. Refute it at one input. -/
def adornCoversWrong : ChangeSpec := { name := "adornCovers", fn := fun _ => fun
  | [d] => { results := [.lit (.bool false)], args := [d] }
  | _ => none }
def AdornCoversWrongFalsely : Prop := adornCoversRow.holds Try.pinned (OpenSpec.ofChange adornCoversWrong)

/-- 'antecedentlaw16.AdornAsks': WHATEVER THE INPUT: true; the input reads as it did. -/
def adornAsksSpec : ChangeSpec := { name := "adornAsks", fn := fun _ => fun
  | [d] => { results := [.lit (.bool true)], args := [d] }
  | _ => none }
def adornAsksRow : OpenClaim := { program := "ytiphnjohbbpkpaa", sum := "0cea52c554c24f1c6f8ee6427684feaa13fd0f52cbceac64f78cf3fa7816eada", func := "antecedent/antecedentlaw16.AdornAsks", spec := "adornAsks", inPlace := ["internal/abi.NoEscape"], unfollowed := true, recurses := true, apart := false }
def AdornAsksSaid : Prop := adornAsksRow.holds Try.pinned (OpenSpec.ofChange adornAsksSpec)

/-- ITS FALSE NEIGHBOUR: 'it returns false'. Refute it at one input. -/
def adornAsksWrong : ChangeSpec := { name := "adornAsks", fn := fun _ => fun
  | [d] => { results := [.lit (.bool false)], args := [d] }
  | _ => none }
def AdornAsksWrongFalsely : Prop := adornAsksRow.holds Try.pinned (OpenSpec.ofChange adornAsksWrong)

/-- 'antecedentlaw16.AdornMore': WHATEVER THE INPUT: true; the input reads as it did. -/
def adornMoreSpec : ChangeSpec := { name := "adornMore", fn := fun _ => fun
  | [d1, d2, d3] => { results := [.lit (.bool true)], args := [d1, d2, d3] }
  | _ => none }
def adornMoreRow : OpenClaim := { program := "ytiphnjohbbpkpaa", sum := "0cea52c554c24f1c6f8ee6427684feaa13fd0f52cbceac64f78cf3fa7816eada", func := "antecedent/antecedentlaw16.AdornMore", spec := "adornMore", inPlace := ["internal/abi.NoEscape"], unfollowed := true, recurses := true, apart := false }
def AdornMoreSaid : Prop := adornMoreRow.holds Try.pinned (OpenSpec.ofChange adornMoreSpec)

/-- ITS FALSE NEIGHBOUR: 'it returns false'. Refute it at one input. -/
def adornMoreWrong : ChangeSpec := { name := "adornMore", fn := fun _ => fun
  | [d1, d2, d3] => { results := [.lit (.bool false)], args := [d1, d2, d3] }
  | _ => none }
def AdornMoreWrongFalsely : Prop := adornMoreRow.holds Try.pinned (OpenSpec.ofChange adornMoreWrong)

/- THE SECOND FORM. 'bulk': how many values and letters a reading holds, each counted each time it is reached (what is shared counts as often as it is met; a slice's spare places count too). A statement '..UptoSaid' is the law's where the arguments, and the package variables that the reading takes, are together of bulk at most 1048576: NARROWER than '..Said'. Prove '..Said' where nothing that the law and all that it calls make is longer than what came in: it says more and counts as full. Else prove '..UptoSaid'. A law counts once. -/
mutual
def uptoBulk {H : Type} : DataW H → Nat
  | .lit (.string bytes) => bytes.length + 1
  | .lit _ => 1
  | .nil => 1
  | .ptr d => uptoBulk d + 1
  | .slice elems spare => uptoBulkAll elems + uptoBulkAll spare + 1
  | .agg parts => uptoBulkAll parts + 1
  | .iface _ d => uptoBulk d + 1
  | .map entries => uptoBulkEntries entries + 1
  | .held _ => 1
def uptoBulkAll {H : Type} : List (DataW H) → Nat
  | [] => 0
  | d :: r => uptoBulk d + uptoBulkAll r
def uptoBulkEntries {H : Type} : List (Lit × DataW H) → Nat
  | [] => 0
  | x :: r => uptoBulkEntry x + uptoBulkEntries r
def uptoBulkEntry {H : Type} : Lit × DataW H → Nat
  | (.string bytes, d) => bytes.length + uptoBulk d + 1
  | (_, d) => uptoBulk d + 1
 end
def uptoSmall : (H : Type) → List (DataW H) → Bool := fun _ ds => decide (uptoBulkAll ds ≤ 1048576)
def OpenSpec.upto (s : _root_.Go.ChangeSpec) : _root_.Go.OpenSpec := { _root_.Go.OpenSpec.ofChange s with cond := some uptoSmall }

/-- 'antecedentlaw16.AdornPrunes', WHERE WHAT IT READS IS OF BULK AT MOST 1048576: true; the input reads as it did. -/
def adornPrunesUptoRow : OpenClaim := { program := "ytiphnjohbbpkpaa", sum := "0cea52c554c24f1c6f8ee6427684feaa13fd0f52cbceac64f78cf3fa7816eada", func := "antecedent/antecedentlaw16.AdornPrunes", spec := "adornPrunes", inPlace := ["internal/abi.NoEscape"], unfollowed := true, recurses := true, apart := false, narrowed := true }
def AdornPrunesUptoSaid : Prop := adornPrunesUptoRow.holds Try.pinned (OpenSpec.upto adornPrunesSpec)

/-- 'antecedentlaw16.AdornCovers', WHERE WHAT IT READS IS OF BULK AT MOST 1048576: true; the input reads as it did. -/
def adornCoversUptoRow : OpenClaim := { program := "ytiphnjohbbpkpaa", sum := "0cea52c554c24f1c6f8ee6427684feaa13fd0f52cbceac64f78cf3fa7816eada", func := "antecedent/antecedentlaw16.AdornCovers", spec := "adornCovers", inPlace := ["internal/abi.NoEscape"], unfollowed := true, recurses := true, apart := false, narrowed := true }
def AdornCoversUptoSaid : Prop := adornCoversUptoRow.holds Try.pinned (OpenSpec.upto adornCoversSpec)

/-- 'antecedentlaw16.AdornAsks', WHERE WHAT IT READS IS OF BULK AT MOST 1048576: true; the input reads as it did. -/
def adornAsksUptoRow : OpenClaim := { program := "ytiphnjohbbpkpaa", sum := "0cea52c554c24f1c6f8ee6427684feaa13fd0f52cbceac64f78cf3fa7816eada", func := "antecedent/antecedentlaw16.AdornAsks", spec := "adornAsks", inPlace := ["internal/abi.NoEscape"], unfollowed := true, recurses := true, apart := false, narrowed := true }
def AdornAsksUptoSaid : Prop := adornAsksUptoRow.holds Try.pinned (OpenSpec.upto adornAsksSpec)

/-- 'antecedentlaw16.AdornMore', WHERE WHAT IT READS IS OF BULK AT MOST 1048576: true; the input reads as it did. -/
def adornMoreUptoRow : OpenClaim := { program := "ytiphnjohbbpkpaa", sum := "0cea52c554c24f1c6f8ee6427684feaa13fd0f52cbceac64f78cf3fa7816eada", func := "antecedent/antecedentlaw16.AdornMore", spec := "adornMore", inPlace := ["internal/abi.NoEscape"], unfollowed := true, recurses := true, apart := false, narrowed := true }
def AdornMoreUptoSaid : Prop := adornMoreUptoRow.holds Try.pinned (OpenSpec.upto adornMoreSpec)

end Rows
end Go.Proofs.Ytiphnjohbbpkpaa
