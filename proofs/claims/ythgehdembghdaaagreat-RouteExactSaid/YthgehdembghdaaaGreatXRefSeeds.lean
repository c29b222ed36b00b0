/-
 PLAIN: the seeds that herdsmanref7.Seeds makes of numbers. herdsmanref7.Seeds.
-/
import Derived.Test.YthgehdembghdaaaGreatXMay
import Derived.Test.YthgehdembghdaaaGreatPx5
import Derived.Test.YthgehdembghdaaaGreatPx5
import Derived.Deep.QuietTactic
import Derived.BigQuiet
import Derived.Deep.DeepCutAuto
import Derived.Deep.LoopGhost
import Derived.Deep.CutBlock
namespace Go.Proofs.YthgehdembghdaaaGreat.P
open Go.RowKit Go.Proofs.YthgehdembghdaaaGreatW.PrintWords Go.Proofs.YthgehdembghdaaaGreatW.PrintLast Go.Proofs.YthgehdembghdaaaGreatW.PrintMore
set_option linter.unusedVariables false
set_option linter.unusedSimpArgs false
def OutE (W H c s : Int) : Prop := s = 0 ∧ c / W = 0 ∨ s = 1 ∧ c % W = W - 1 ∨ s = 2 ∧ c / W = H - 1 ∨ s = 3 ∧ c % W = 0
instance (W H c s : Int) : Decidable (OutE W H c s) := inferInstanceAs (Decidable (_ ∨ _))
theorem refIn_some (n lo hi : Int) : herdsmanref1_In.f n lo hi = some (decide (lo ≤ n ∧ n ≤ hi)) := by
 unfold herdsmanref1_In.f
 by_cases h : n ≥ lo
 ·rw [if_pos h]; exact congrArg some (decide_eq_decide.2 ⟨fun h2 => ⟨h, h2⟩, fun h2 => h2.2⟩)
 ·rw [if_neg h]; exact congrArg some (decide_eq_false (fun h2 => h h2.1)).symm
theorem refMay_some (W H : Int) : herdsmanref1_May.f W H = some (decide ((1 ≤ W ∧ W ≤ 1024) ∧ 1 ≤ H ∧ H ≤ 1024)) := by
 unfold herdsmanref1_May.f
 simp only [refIn_some, Option.bind_some, decide_eq_true_eq]
 by_cases h : 1 ≤ W ∧ W ≤ 1024
 ·rw [if_pos h]; exact congrArg some (decide_eq_decide.2 ⟨fun h2 => ⟨h, h2⟩, fun h2 => h2.2⟩)
 ·rw [if_neg h]; exact congrArg some (decide_eq_false (fun h2 => h h2.1)).symm
end Go.Proofs.YthgehdembghdaaaGreat.P
namespace Go.Proofs.YthgehdembghdaaaGreat.P
open Go.RowKit Go.Proofs.YthgehdembghdaaaGreatW.PrintWords Go.Proofs.YthgehdembghdaaaGreatW.PrintLast Go.Proofs.YthgehdembghdaaaGreatW.PrintMore
set_option linter.unusedVariables false
set_option linter.unusedSimpArgs false
end Go.Proofs.YthgehdembghdaaaGreat.P
