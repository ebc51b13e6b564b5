/-
  No cell of these rows narrows 'for every input' (looked for: loops, veiled, ifaces, maps, wideKeys, modest, calm, conditions, laid).
  DERIVED. THE GIVEN ROWS OF THIS SEAT. 6 by the template 'for every input the law returns true; each argument reads behind the call as it read before'; 0 by the template 'total and deterministic' (their statements: YtigpeemgnocdhaaTotals.lean).
  GIVEN WITH THE SEED: the statements are not yours to turn. If you find one false, say at which input.
  Laid BY PROGRAM, IN A SANDBOX (cutbox-rows.mjs): the forced cells as the released guide's own fill.sh prints them over the translation 27208066e3d830e7… (all of the seat's roots in one cut). By AI agents, Wed Nov 11 2026. No macro, syntax, notation, axiom, sorry.
-/
import Derived.Test.YtigpeemgnocdhaaChecked
import GoSem.Claim
import GoSem.ClaimJoined
import GoSem.ClaimMapViews
import Derived.JoinedTies
import Derived.KernelRfl
namespace Go.Proofs.Ytigpeemgnocdhaa
/- THE CELL 'sum', in the pinned program and in every row, IS THE sha256 OF THE DUMP (.gsa) THAT YtigpeemgnocdhaaProg.lean LOADS. Nothing in Lean hashes anything: it is a label: what it is worth is what the hold of that sum in a sandbox is worth. -/
noncomputable def Try.pinned : Pinned := { name := "ytigpeemgnocdhaa", sum := "27208066e3d830e784d9bdd252dcea0f035ca17d559b4a38b47399173c4d70a0", checked := Try.checked }
namespace Rows
def none {H : Type} : Left H := { results := [], args := [] }

/-- 'antecedentlaw12.CompsTell': WHATEVER THE INPUT: true; the input reads as it did. -/
def compsTellSpec : ChangeSpec := { name := "compsTell", fn := fun _ => fun
  | [d1, d2, d3] => { results := [.lit (.bool true)], args := [d1, d2, d3] }
  | _ => none }
def compsTellRow : OpenClaim := { program := "ytigpeemgnocdhaa", sum := "27208066e3d830e784d9bdd252dcea0f035ca17d559b4a38b47399173c4d70a0", func := "antecedent/antecedentlaw12.CompsTell", spec := "compsTell", unfollowed := true, recurses := true, apart := false }
def CompsTellSaid : Prop := compsTellRow.holds Try.pinned (OpenSpec.ofChange compsTellSpec)

/-- ITS FALSE NEIGHBOUR: 'it returns false'. Refute it at one input. -/
def compsTellWrong : ChangeSpec := { name := "compsTell", fn := fun _ => fun
  | [d1, d2, d3] => { results := [.lit (.bool false)], args := [d1, d2, d3] }
  | _ => none }
def CompsTellWrongFalsely : Prop := compsTellRow.holds Try.pinned (OpenSpec.ofChange compsTellWrong)

/-- 'antecedentlaw12.CompsOrder': WHATEVER THE INPUT: true; the input reads as it did. -/
def compsOrderSpec : ChangeSpec := { name := "compsOrder", fn := fun _ => fun
  | [d1, d2] => { results := [.lit (.bool true)], args := [d1, d2] }
  | _ => none }
def compsOrderRow : OpenClaim := { program := "ytigpeemgnocdhaa", sum := "27208066e3d830e784d9bdd252dcea0f035ca17d559b4a38b47399173c4d70a0", func := "antecedent/antecedentlaw12.CompsOrder", spec := "compsOrder", unfollowed := true, recurses := true, apart := false }
def CompsOrderSaid : Prop := compsOrderRow.holds Try.pinned (OpenSpec.ofChange compsOrderSpec)

/-- ITS FALSE NEIGHBOUR: 'it returns false'. Refute it at one input. -/
def compsOrderWrong : ChangeSpec := { name := "compsOrder", fn := fun _ => fun
  | [d1, d2] => { results := [.lit (.bool false)], args := [d1, d2] }
  | _ => none }
def CompsOrderWrongFalsely : Prop := compsOrderRow.holds Try.pinned (OpenSpec.ofChange compsOrderWrong)

/-- 'antecedentlaw12.CompsLists': WHATEVER THE INPUT: true; the input reads as it did. -/
def compsListsSpec : ChangeSpec := { name := "compsLists", fn := fun _ => fun
  | [d] => { results := [.lit (.bool true)], args := [d] }
  | _ => none }
def compsListsRow : OpenClaim := { program := "ytigpeemgnocdhaa", sum := "27208066e3d830e784d9bdd252dcea0f035ca17d559b4a38b47399173c4d70a0", func := "antecedent/antecedentlaw12.CompsLists", spec := "compsLists", unfollowed := true, recurses := true, apart := false }
def CompsListsSaid : Prop := compsListsRow.holds Try.pinned (OpenSpec.ofChange compsListsSpec)

/-- ITS FALSE NEIGHBOUR: 'it returns false'. Refute it at one input. -/
def compsListsWrong : ChangeSpec := { name := "compsLists", fn := fun _ => fun
  | [d] => { results := [.lit (.bool false)], args := [d] }
  | _ => none }
def CompsListsWrongFalsely : Prop := compsListsRow.holds Try.pinned (OpenSpec.ofChange compsListsWrong)

/-- 'antecedentlaw12.CompsMore': WHATEVER THE INPUT: true; the input reads as it did. -/
def compsMoreSpec : ChangeSpec := { name := "compsMore", fn := fun _ => fun
  | [d1, d2, d3, d4] => { results := [.lit (.bool true)], args := [d1, d2, d3, d4] }
  | _ => none }
def compsMoreRow : OpenClaim := { program := "ytigpeemgnocdhaa", sum := "27208066e3d830e784d9bdd252dcea0f035ca17d559b4a38b47399173c4d70a0", func := "antecedent/antecedentlaw12.CompsMore", spec := "compsMore", unfollowed := true, recurses := true, apart := false }
def CompsMoreSaid : Prop := compsMoreRow.holds Try.pinned (OpenSpec.ofChange compsMoreSpec)

/-- ITS FALSE NEIGHBOUR: 'it returns false'. Refute it at one input. -/
def compsMoreWrong : ChangeSpec := { name := "compsMore", fn := fun _ => fun
  | [d1, d2, d3, d4] => { results := [.lit (.bool false)], args := [d1, d2, d3, d4] }
  | _ => none }
def CompsMoreWrongFalsely : Prop := compsMoreRow.holds Try.pinned (OpenSpec.ofChange compsMoreWrong)

/-- 'antecedentlaw12.CompsChain': WHATEVER THE INPUT: true; the input reads as it did. -/
def compsChainSpec : ChangeSpec := { name := "compsChain", fn := fun _ => fun
  | [d] => { results := [.lit (.bool true)], args := [d] }
  | _ => none }
def compsChainRow : OpenClaim := { program := "ytigpeemgnocdhaa", sum := "27208066e3d830e784d9bdd252dcea0f035ca17d559b4a38b47399173c4d70a0", func := "antecedent/antecedentlaw12.CompsChain", spec := "compsChain", unfollowed := true, recurses := true, apart := false }
def CompsChainSaid : Prop := compsChainRow.holds Try.pinned (OpenSpec.ofChange compsChainSpec)

/-- ITS FALSE NEIGHBOUR: 'it returns false'. Refute it at one input. -/
def compsChainWrong : ChangeSpec := { name := "compsChain", fn := fun _ => fun
  | [d] => { results := [.lit (.bool false)], args := [d] }
  | _ => none }
def CompsChainWrongFalsely : Prop := compsChainRow.holds Try.pinned (OpenSpec.ofChange compsChainWrong)

/-- 'antecedentlaw12.CompsReach': WHATEVER THE INPUT: true; the input reads as it did. -/
def compsReachSpec : ChangeSpec := { name := "compsReach", fn := fun _ => fun
  | [d1, d2] => { results := [.lit (.bool true)], args := [d1, d2] }
  | _ => none }
def compsReachRow : OpenClaim := { program := "ytigpeemgnocdhaa", sum := "27208066e3d830e784d9bdd252dcea0f035ca17d559b4a38b47399173c4d70a0", func := "antecedent/antecedentlaw12.CompsReach", spec := "compsReach", unfollowed := true, recurses := true, apart := false }
def CompsReachSaid : Prop := compsReachRow.holds Try.pinned (OpenSpec.ofChange compsReachSpec)

/-- ITS FALSE NEIGHBOUR: 'it returns false'. Refute it at one input. -/
def compsReachWrong : ChangeSpec := { name := "compsReach", fn := fun _ => fun
  | [d1, d2] => { results := [.lit (.bool false)], args := [d1, d2] }
  | _ => none }
def CompsReachWrongFalsely : Prop := compsReachRow.holds Try.pinned (OpenSpec.ofChange compsReachWrong)

/- THE SECOND FORM. 'bulk': how many values and letters a reading holds, each counted each time it is reached (what is shared counts as often as it is met; a slice's spare places count too). A statement '..UptoSaid' is the law's where the arguments, and the package variables that the reading takes, are together of bulk at most 1048576: NARROWER than '..Said'. Prove '..Said' where nothing that the law and all that it calls make is longer than what came in: it says more and counts as full. Else prove '..UptoSaid'. A law counts once. -/
mutual
def uptoBulk {H : Type} : DataW H → Nat
  | .lit (.string bytes) => bytes.length + 1
  | .lit _ => 1
  | .nil => 1
  | .ptr d => uptoBulk d + 1
  | .slice elems spare => uptoBulkAll elems + uptoBulkAll spare + 1
  | .agg parts => uptoBulkAll parts + 1
  | .iface _ d => uptoBulk d + 1
  | .map entries => uptoBulkEntries entries + 1
  | .held _ => 1
def uptoBulkAll {H : Type} : List (DataW H) → Nat
  | [] => 0
  | d :: r => uptoBulk d + uptoBulkAll r
def uptoBulkEntries {H : Type} : List (Lit × DataW H) → Nat
  | [] => 0
  | x :: r => uptoBulkEntry x + uptoBulkEntries r
def uptoBulkEntry {H : Type} : Lit × DataW H → Nat
  | (.string bytes, d) => bytes.length + uptoBulk d + 1
  | (_, d) => uptoBulk d + 1
 end
def uptoSmall : (H : Type) → List (DataW H) → Bool := fun _ ds => decide (uptoBulkAll ds ≤ 1048576)
def OpenSpec.upto (s : _root_.Go.ChangeSpec) : _root_.Go.OpenSpec := { _root_.Go.OpenSpec.ofChange s with cond := some uptoSmall }

/-- 'antecedentlaw12.CompsTell', WHERE WHAT IT READS IS OF BULK AT MOST 1048576: true; the input reads as it did. -/
def compsTellUptoRow : OpenClaim := { program := "ytigpeemgnocdhaa", sum := "27208066e3d830e784d9bdd252dcea0f035ca17d559b4a38b47399173c4d70a0", func := "antecedent/antecedentlaw12.CompsTell", spec := "compsTell", unfollowed := true, recurses := true, apart := false, narrowed := true }
def CompsTellUptoSaid : Prop := compsTellUptoRow.holds Try.pinned (OpenSpec.upto compsTellSpec)

/-- 'antecedentlaw12.CompsOrder', WHERE WHAT IT READS IS OF BULK AT MOST 1048576: true; the input reads as it did. -/
def compsOrderUptoRow : OpenClaim := { program := "ytigpeemgnocdhaa", sum := "27208066e3d830e784d9bdd252dcea0f035ca17d559b4a38b47399173c4d70a0", func := "antecedent/antecedentlaw12.CompsOrder", spec := "compsOrder", unfollowed := true, recurses := true, apart := false, narrowed := true }
def CompsOrderUptoSaid : Prop := compsOrderUptoRow.holds Try.pinned (OpenSpec.upto compsOrderSpec)

/-- 'antecedentlaw12.CompsLists', WHERE WHAT IT READS IS OF BULK AT MOST 1048576: true; the input reads as it did. -/
def compsListsUptoRow : OpenClaim := { program := "ytigpeemgnocdhaa", sum := "27208066e3d830e784d9bdd252dcea0f035ca17d559b4a38b47399173c4d70a0", func := "antecedent/antecedentlaw12.CompsLists", spec := "compsLists", unfollowed := true, recurses := true, apart := false, narrowed := true }
def CompsListsUptoSaid : Prop := compsListsUptoRow.holds Try.pinned (OpenSpec.upto compsListsSpec)

/-- 'antecedentlaw12.CompsMore', WHERE WHAT IT READS IS OF BULK AT MOST 1048576: true; the input reads as it did. -/
def compsMoreUptoRow : OpenClaim := { program := "ytigpeemgnocdhaa", sum := "27208066e3d830e784d9bdd252dcea0f035ca17d559b4a38b47399173c4d70a0", func := "antecedent/antecedentlaw12.CompsMore", spec := "compsMore", unfollowed := true, recurses := true, apart := false, narrowed := true }
def CompsMoreUptoSaid : Prop := compsMoreUptoRow.holds Try.pinned (OpenSpec.upto compsMoreSpec)

/-- 'antecedentlaw12.CompsChain', WHERE WHAT IT READS IS OF BULK AT MOST 1048576: true; the input reads as it did. -/
def compsChainUptoRow : OpenClaim := { program := "ytigpeemgnocdhaa", sum := "27208066e3d830e784d9bdd252dcea0f035ca17d559b4a38b47399173c4d70a0", func := "antecedent/antecedentlaw12.CompsChain", spec := "compsChain", unfollowed := true, recurses := true, apart := false, narrowed := true }
def CompsChainUptoSaid : Prop := compsChainUptoRow.holds Try.pinned (OpenSpec.upto compsChainSpec)

/-- 'antecedentlaw12.CompsReach', WHERE WHAT IT READS IS OF BULK AT MOST 1048576: true; the input reads as it did. -/
def compsReachUptoRow : OpenClaim := { program := "ytigpeemgnocdhaa", sum := "27208066e3d830e784d9bdd252dcea0f035ca17d559b4a38b47399173c4d70a0", func := "antecedent/antecedentlaw12.CompsReach", spec := "compsReach", unfollowed := true, recurses := true, apart := false, narrowed := true }
def CompsReachUptoSaid : Prop := compsReachUptoRow.holds Try.pinned (OpenSpec.upto compsReachSpec)

end Rows
end Go.Proofs.Ytigpeemgnocdhaa
