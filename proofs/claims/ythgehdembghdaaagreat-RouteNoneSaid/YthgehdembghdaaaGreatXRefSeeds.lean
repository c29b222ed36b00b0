/-
 PLAIN: the seeds that herdsmanref7.Seeds makes of numbers. herdsmanref7.Seeds.
-/
import Derived.Test.YthgehdembghdaaaGreatXMay
import Derived.Test.YthgehdembghdaaaGreatPx5
import Derived.Test.YthgehdembghdaaaGreatPx5
import Derived.Deep.QuietTactic
import Derived.BigQuiet
import Derived.Deep.DeepCutAuto
import Derived.Deep.LoopGhost
import Derived.Deep.CutBlock
namespace Go.Proofs.YthgehdembghdaaaGreat.P
open Go.RowKit Go.Proofs.YthgehdembghdaaaGreatW.PrintWords Go.Proofs.YthgehdembghdaaaGreatW.PrintLast Go.Proofs.YthgehdembghdaaaGreatW.PrintMore
set_option linter.unusedVariables false
set_option linter.unusedSimpArgs false
def OutE (W H c s : Int) : Prop := s = 0 ∧ c / W = 0 ∨ s = 1 ∧ c % W = W - 1 ∨ s = 2 ∧ c / W = H - 1 ∨ s = 3 ∧ c % W = 0
instance (W H c s : Int) : Decidable (OutE W H c s) := inferInstanceAs (Decidable (_ ∨ _))
end Go.Proofs.YthgehdembghdaaaGreat.P
namespace Go.Proofs.YthgehdembghdaaaGreat.P
open Go.RowKit Go.Proofs.YthgehdembghdaaaGreatW.PrintWords Go.Proofs.YthgehdembghdaaaGreatW.PrintLast Go.Proofs.YthgehdembghdaaaGreatW.PrintMore
set_option linter.unusedVariables false
set_option linter.unusedSimpArgs false
end Go.Proofs.YthgehdembghdaaaGreat.P
