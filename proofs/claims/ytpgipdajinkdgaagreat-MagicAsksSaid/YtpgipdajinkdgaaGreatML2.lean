/- MagicLeft. -/
import Derived.Test.YtpgipdajinkdgaaGreatMO
import Derived.Test.YtpgipdajinkdgaaGreatM9
import Derived.Test.YtpgipdajinkdgaaGreatME
import Derived.Test.YtpgipdajinkdgaaGreatMF
namespace Go.Proofs.YtpgipdajinkdgaaGreatA
open Go Go.RowKit
set_option linter.all false
set_option linter.unusedSectionVars false
set_option linter.constructorNameAsVariable false
set_option linter.unusedVariables false
set_option linter.unusedSimpArgs false
structure BaseR (H : List Blk) (v : AV) (rs : List RuleT) : Prop where
  top : OutAt 50 4 H v (rs.map RuleT.c)
end Go.Proofs.YtpgipdajinkdgaaGreatA

namespace Go.Proofs.YtpgipdajinkdgaaGreatA
open Go Go.RowKit
set_option linter.all false
set_option linter.unusedSectionVars false
set_option linter.constructorNameAsVariable false
set_option linter.unusedVariables false
set_option linter.unusedSimpArgs false
theorem magS_of {p : ProgT} (F : FewT p 8 5) (hQ : p.query.args.length ≤ 3) (hA : ∀ r ∈ p.rules, ∀ l ∈ r.body, l.a.args.length ≤ 3) (hS : ∀ n ∈ allN p, n.size ≤ bigB) : MagS p where
  rules := F.rules
  query := by omega
  body := fun r hr => ⟨by have := F.body r hr; omega, F.head r hr, fun x hx => by have := hA r hr x hx; omega⟩
  path := fun r hr l hl => by have := F.path r hr l hl; omega
  names := by
    have := allN_le p 8 5 F
    omega
  bytes := hS
theorem made_len {p : ProgT} {px : ByteArray} {op : List ByteArray} {used : List D2} (R : RewS p px op used) : (madeR px op used p).length ≤ 12000000 := by
  have := flat_bound (px := px) (op := op) (used := used) R.body R.rules used
  have := R.usedS
  unfold madeR
  rw [List.length_cons]
  omega
end Go.Proofs.YtpgipdajinkdgaaGreatA
