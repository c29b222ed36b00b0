/-
 PLAIN: the tile and the seeds of numbers; what lies over a side of a cell.
-/
import Derived.Test.YthgehdembghdaaaGreatXRefSeeds
import Derived.Test.YthgehdembghdaaaGreatPx5
namespace Go.Proofs.YthgehdembghdaaaGreat.P
open Go.RowKit Go.Proofs.YthgehdembghdaaaGreatW.PrintWords Go.Proofs.YthgehdembghdaaaGreatW.PrintLast Go.Proofs.YthgehdembghdaaaGreatW.PrintMore
set_option linter.unusedVariables false
set_option linter.unusedSimpArgs false
def nbS (W c s : Int) : Int := if s = 0 then c - W else if s = 1 then c + 1 else if s = 2 then c + W else if s = 3 then c - 1 else c
end Go.Proofs.YthgehdembghdaaaGreat.P
