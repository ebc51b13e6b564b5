/-
  No cell of these rows narrows 'for every input' (looked for: loops, veiled, ifaces, maps, wideKeys, modest, calm, conditions, laid).
  DERIVED. THE GIVEN ROWS OF THIS SEAT. 4 by the template 'for every input the law returns true; each argument reads behind the call as it read before'; 0 by the template 'total and deterministic' (their statements: YtpgipdajinkdgaaGreatTotals.lean).
  GIVEN WITH THE SEED: the statements are not yours to turn. If you find one false, say at which input.
  Laid BY PROGRAM, IN A SANDBOX (cutbox-rows.mjs): the forced cells as the released guide's own fill.sh prints them over the translation c7e2c6adb6183b65… (all of the seat's roots in one cut). By AI agents, Wed Nov 11 2026. No macro, syntax, notation, axiom, sorry.
-/
import Derived.Test.YtpgipdajinkdgaaGreatChecked
import GoSem.Claim
import GoSem.ClaimJoined
import GoSem.ClaimMapViews
import Derived.JoinedTies
import Derived.KernelRfl
namespace Go.Proofs.YtpgipdajinkdgaaGreat
/- THE CELL 'sum', in the pinned program and in every row, IS THE sha256 OF THE DUMP (.gsa) THAT YtpgipdajinkdgaaGreatProg.lean LOADS. Nothing in Lean hashes anything: it is a label: what it is worth is what the hold of that sum in a sandbox is worth. -/
noncomputable def Tryz.pinned : Pinned := { name := "ytpgipdajinkdgaagreat", sum := "c7e2c6adb6183b659a4609a0fe75b9145db854ccca556c8c70b4292cb103dca5", checked := Tryz.checked }
namespace Rows
def none {H : Type} : Left H := { results := [], args := [] }

/-- 'antecedentlaw17.MagicNames': WHATEVER THE INPUT: true; the input reads as it did. -/
def magicNamesSpec : ChangeSpec := { name := "magicNames", fn := fun _ => fun
  | [d1, d2, d3, d4] => { results := [.lit (.bool true)], args := [d1, d2, d3, d4] }
  | _ => none }
def magicNamesRow : OpenClaim := { program := "ytpgipdajinkdgaagreat", sum := "c7e2c6adb6183b659a4609a0fe75b9145db854ccca556c8c70b4292cb103dca5", func := "antecedent/antecedentlaw17.MagicNames", spec := "magicNames", inPlace := ["internal/abi.NoEscape"], unfollowed := true, recurses := true, apart := false }
def MagicNamesSaid : Prop := magicNamesRow.holds Tryz.pinned (OpenSpec.ofChange magicNamesSpec)

/-- ITS FALSE NEIGHBOUR: 'it returns false'. Refute it at one input. -/
def magicNamesWrong : ChangeSpec := { name := "magicNames", fn := fun _ => fun
  | [d1, d2, d3, d4] => { results := [.lit (.bool false)], args := [d1, d2, d3, d4] }
  | _ => none }
def MagicNamesWrongFalsely : Prop := magicNamesRow.holds Tryz.pinned (OpenSpec.ofChange magicNamesWrong)

/-- 'antecedentlaw17.MagicLeft': WHATEVER THE INPUT: true; the input reads as it did. -/
def magicLeftSpec : ChangeSpec := { name := "magicLeft", fn := fun _ => fun
  | [d1, d2] => { results := [.lit (.bool true)], args := [d1, d2] }
  | _ => none }
def magicLeftRow : OpenClaim := { program := "ytpgipdajinkdgaagreat", sum := "c7e2c6adb6183b659a4609a0fe75b9145db854ccca556c8c70b4292cb103dca5", func := "antecedent/antecedentlaw17.MagicLeft", spec := "magicLeft", inPlace := ["internal/abi.NoEscape"], unfollowed := true, recurses := true, apart := false }
def MagicLeftSaid : Prop := magicLeftRow.holds Tryz.pinned (OpenSpec.ofChange magicLeftSpec)

/-- ITS FALSE NEIGHBOUR: 'it returns false'. Refute it at one input. -/
def magicLeftWrong : ChangeSpec := { name := "magicLeft", fn := fun _ => fun
  | [d1, d2] => { results := [.lit (.bool false)], args := [d1, d2] }
  | _ => none }
def MagicLeftWrongFalsely : Prop := magicLeftRow.holds Tryz.pinned (OpenSpec.ofChange magicLeftWrong)

/-- 'antecedentlaw17.MagicAsks': WHATEVER THE INPUT: true; the input reads as it did. -/
def magicAsksSpec : ChangeSpec := { name := "magicAsks", fn := fun _ => fun
  | [d1, d2] => { results := [.lit (.bool true)], args := [d1, d2] }
  | _ => none }
def magicAsksRow : OpenClaim := { program := "ytpgipdajinkdgaagreat", sum := "c7e2c6adb6183b659a4609a0fe75b9145db854ccca556c8c70b4292cb103dca5", func := "antecedent/antecedentlaw17.MagicAsks", spec := "magicAsks", inPlace := ["internal/abi.NoEscape"], unfollowed := true, recurses := true, apart := false }
def MagicAsksSaid : Prop := magicAsksRow.holds Tryz.pinned (OpenSpec.ofChange magicAsksSpec)

/-- ITS FALSE NEIGHBOUR: 'it returns false'. Refute it at one input. -/
def magicAsksWrong : ChangeSpec := { name := "magicAsks", fn := fun _ => fun
  | [d1, d2] => { results := [.lit (.bool false)], args := [d1, d2] }
  | _ => none }
def MagicAsksWrongFalsely : Prop := magicAsksRow.holds Tryz.pinned (OpenSpec.ofChange magicAsksWrong)

/-- 'antecedentlaw17.MagicSafe': WHATEVER THE INPUT: true; the input reads as it did. -/
def magicSafeSpec : ChangeSpec := { name := "magicSafe", fn := fun _ => fun
  | [d1, d2] => { results := [.lit (.bool true)], args := [d1, d2] }
  | _ => none }
def magicSafeRow : OpenClaim := { program := "ytpgipdajinkdgaagreat", sum := "c7e2c6adb6183b659a4609a0fe75b9145db854ccca556c8c70b4292cb103dca5", func := "antecedent/antecedentlaw17.MagicSafe", spec := "magicSafe", inPlace := ["internal/abi.NoEscape"], unfollowed := true, recurses := true, apart := false }
def MagicSafeSaid : Prop := magicSafeRow.holds Tryz.pinned (OpenSpec.ofChange magicSafeSpec)

/-- ITS FALSE NEIGHBOUR: 'it returns false'. Refute it at one input. -/
def magicSafeWrong : ChangeSpec := { name := "magicSafe", fn := fun _ => fun
  | [d1, d2] => { results := [.lit (.bool false)], args := [d1, d2] }
  | _ => none }
def MagicSafeWrongFalsely : Prop := magicSafeRow.holds Tryz.pinned (OpenSpec.ofChange magicSafeWrong)

/- THE SECOND FORM. 'bulk': how many values and letters a reading holds, each counted each time it is reached (what is shared counts as often as it is met; a slice's spare places count too). A statement '..UptoSaid' is the law's where the arguments, and the package variables that the reading takes, are together of bulk at most 1048576: NARROWER than '..Said'. Prove '..Said' where nothing that the law and all that it calls make is longer than what came in: it says more and counts as full. Else prove '..UptoSaid'. A law counts once. -/
mutual
def uptoBulk {H : Type} : DataW H → Nat
  | .lit (.string bytes) => bytes.length + 1
  | .lit _ => 1
  | .nil => 1
  | .ptr d => uptoBulk d + 1
  | .slice elems spare => uptoBulkAll elems + uptoBulkAll spare + 1
  | .agg parts => uptoBulkAll parts + 1
  | .iface _ d => uptoBulk d + 1
  | .map entries => uptoBulkEntries entries + 1
  | .held _ => 1
def uptoBulkAll {H : Type} : List (DataW H) → Nat
  | [] => 0
  | d :: r => uptoBulk d + uptoBulkAll r
def uptoBulkEntries {H : Type} : List (Lit × DataW H) → Nat
  | [] => 0
  | x :: r => uptoBulkEntry x + uptoBulkEntries r
def uptoBulkEntry {H : Type} : Lit × DataW H → Nat
  | (.string bytes, d) => bytes.length + uptoBulk d + 1
  | (_, d) => uptoBulk d + 1
 end
def uptoSmall : (H : Type) → List (DataW H) → Bool := fun _ ds => decide (uptoBulkAll ds ≤ 1048576)
def OpenSpec.upto (s : _root_.Go.ChangeSpec) : _root_.Go.OpenSpec := { _root_.Go.OpenSpec.ofChange s with cond := some uptoSmall }

/-- 'antecedentlaw17.MagicNames', WHERE WHAT IT READS IS OF BULK AT MOST 1048576: true; the input reads as it did. -/
def magicNamesUptoRow : OpenClaim := { program := "ytpgipdajinkdgaagreat", sum := "c7e2c6adb6183b659a4609a0fe75b9145db854ccca556c8c70b4292cb103dca5", func := "antecedent/antecedentlaw17.MagicNames", spec := "magicNames", inPlace := ["internal/abi.NoEscape"], unfollowed := true, recurses := true, apart := false, narrowed := true }
def MagicNamesUptoSaid : Prop := magicNamesUptoRow.holds Tryz.pinned (OpenSpec.upto magicNamesSpec)

/-- 'antecedentlaw17.MagicLeft', WHERE WHAT IT READS IS OF BULK AT MOST 1048576: true; the input reads as it did. -/
def magicLeftUptoRow : OpenClaim := { program := "ytpgipdajinkdgaagreat", sum := "c7e2c6adb6183b659a4609a0fe75b9145db854ccca556c8c70b4292cb103dca5", func := "antecedent/antecedentlaw17.MagicLeft", spec := "magicLeft", inPlace := ["internal/abi.NoEscape"], unfollowed := true, recurses := true, apart := false, narrowed := true }
def MagicLeftUptoSaid : Prop := magicLeftUptoRow.holds Tryz.pinned (OpenSpec.upto magicLeftSpec)

/-- 'antecedentlaw17.MagicAsks', WHERE WHAT IT READS IS OF BULK AT MOST 1048576: true; the input reads as it did. -/
def magicAsksUptoRow : OpenClaim := { program := "ytpgipdajinkdgaagreat", sum := "c7e2c6adb6183b659a4609a0fe75b9145db854ccca556c8c70b4292cb103dca5", func := "antecedent/antecedentlaw17.MagicAsks", spec := "magicAsks", inPlace := ["internal/abi.NoEscape"], unfollowed := true, recurses := true, apart := false, narrowed := true }
def MagicAsksUptoSaid : Prop := magicAsksUptoRow.holds Tryz.pinned (OpenSpec.upto magicAsksSpec)

/-- 'antecedentlaw17.MagicSafe', WHERE WHAT IT READS IS OF BULK AT MOST 1048576: true; the input reads as it did. -/
def magicSafeUptoRow : OpenClaim := { program := "ytpgipdajinkdgaagreat", sum := "c7e2c6adb6183b659a4609a0fe75b9145db854ccca556c8c70b4292cb103dca5", func := "antecedent/antecedentlaw17.MagicSafe", spec := "magicSafe", inPlace := ["internal/abi.NoEscape"], unfollowed := true, recurses := true, apart := false, narrowed := true }
def MagicSafeUptoSaid : Prop := magicSafeUptoRow.holds Tryz.pinned (OpenSpec.upto magicSafeSpec)

end Rows
end Go.Proofs.YtpgipdajinkdgaaGreat
