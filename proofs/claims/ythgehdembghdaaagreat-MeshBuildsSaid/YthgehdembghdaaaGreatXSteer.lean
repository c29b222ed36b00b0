/-
 PLAIN: directions; a way by them. steer: the helm in memory, its methods; Field. steer.Field. steer.Walk. herdsmanlaw10.told.
-/
import Derived.Test.YthgehdembghdaaaGreatXLawS
import Derived.Test.YthgehdembghdaaaGreatPxB
import Derived.Deep.QuietTactic
import Derived.BigQuiet
import Derived.Deep.DeepCutAuto
import Derived.Deep.LoopGhost
import Derived.Deep.CutBlock
import Derived.Deep.RegionHeld3
import Derived.Test.YthgehdembghdaaaGreatPx24
import Derived.Deep.RegionLaw
import Derived.Test.YthgehdembghdaaaGreatPx5
namespace Go.Proofs.YthgehdembghdaaaGreat.P
open Go.RowKit Go.Proofs.YthgehdembghdaaaGreatW.PrintWords Go.Proofs.YthgehdembghdaaaGreatW.PrintLast Go.Proofs.YthgehdembghdaaaGreatW.PrintMore
open Go.Proofs.YthgehdembghdaaaGreat.Dist
set_option linter.unusedVariables false
set_option linter.unusedSimpArgs false
def bestStep (i s : Int) (b : Int × Bool) (x : Seed) : Int × Bool := if x.f0 = i ∧ x.f1 = s ∧ (b.2 = false ∨ x.f2 < b.1) then (x.f2, true) else b
def bestS (l : List Seed) (i s : Int) : Int := (l.foldl (bestStep i s) (INF, false)).1
def ByS (W H : Int) (C : List Int) (l : List Seed) (D : List Int) (i s : Int) : Prop := (OutE W H i s ∧ bestS l i s = rd D i) ∨ (¬ OutE W H i s ∧ rd C (nbS W i s) ≠ 255 ∧ rd C (nbS W i s) + rd D (nbS W i s) = rd D i)
instance (W H : Int) (C : List Int) (l : List Seed) (D : List Int) (i s : Int) : Decidable (ByS W H C l D i s) := inferInstanceAs (Decidable (_ ∨ _))
def HelmOk (W H : Int) (C : List Int) (l : List Seed) (D : List Int) : Prop :=
 ((1 ≤ W ∧ W ≤ 16) ∧ (1 ≤ H ∧ H ≤ 16) ∧ (C.length : Int) = W * H ∧ D.length = C.length) ∧ (∀ x ∈ C, 0 ≤ x ∧ x ≤ 255) ∧ (∀ x ∈ D, 0 ≤ x ∧ x ≤ INF) ∧ l.length ≤ 1000000
instance (W H : Int) (C : List Int) (l : List Seed) (D : List Int) : Decidable (HelmOk W H C l D) := inferInstanceAs (Decidable (_ ∧ _))
end Go.Proofs.YthgehdembghdaaaGreat.P
namespace Go.Proofs.YthgehdembghdaaaGreat.P
open Go.RowKit Go.Proofs.YthgehdembghdaaaGreatW.PrintWords Go.Proofs.YthgehdembghdaaaGreatW.PrintLast Go.Proofs.YthgehdembghdaaaGreatW.PrintMore
open Go.Proofs.YthgehdembghdaaaGreat.Dist
set_option linter.unusedVariables false
set_option linter.unusedSimpArgs false
structure HelmM (w : World) (g : Nat) (W H : Int) (AT : Option Addr) (cT : Nat) (C : List Int) (AS : Option Addr) (cS : Nat) (l : List Seed) (AD : Option Addr) (cD : Nat) (D : List Int) : Prop where
 blk : w.heap[g]? = some (.cells #[.int .i64 W, .int .i64 H, .slice AT C.length cT, .slice AS l.length cS, .slice AD D.length cD] 141 (0, 0))
 tile : Kd.C (Kd.int .u8) w AT C.length C
 seeds : Kd.C k90 w AS l.length l
 seedsC : l.length ≤ cS
 dist : Kd.C (Kd.int .i64) w AD D.length D
variable {w w' : World} {g : Nat} {W H : Int} {AT : Option Addr} {cT : Nat} {C : List Int} {AS : Option Addr} {cS : Nat} {l : List Seed} {AD : Option Addr} {cD : Nat} {D : List Int}
end Go.Proofs.YthgehdembghdaaaGreat.P
namespace Go.Proofs.YthgehdembghdaaaGreat.P
open Go.RowKit Go.Proofs.YthgehdembghdaaaGreatW.PrintWords Go.Proofs.YthgehdembghdaaaGreatW.PrintLast Go.Proofs.YthgehdembghdaaaGreatW.PrintMore
open Go.Proofs.YthgehdembghdaaaGreat.Dist
set_option linter.unusedVariables false
set_option linter.unusedSimpArgs false
end Go.Proofs.YthgehdembghdaaaGreat.P
namespace Go.Proofs.YthgehdembghdaaaGreat.P
open Go.RowKit Go.Proofs.YthgehdembghdaaaGreatW.PrintWords Go.Proofs.YthgehdembghdaaaGreatW.PrintLast Go.Proofs.YthgehdembghdaaaGreatW.PrintMore
open Go.Proofs.YthgehdembghdaaaGreat.Dist
set_option linter.unusedVariables false
set_option linter.unusedSimpArgs false
end Go.Proofs.YthgehdembghdaaaGreat.P
namespace Go.Proofs.YthgehdembghdaaaGreat.P
open Go.RowKit Go.Proofs.YthgehdembghdaaaGreatW.PrintWords Go.Proofs.YthgehdembghdaaaGreatW.PrintLast Go.Proofs.YthgehdembghdaaaGreatW.PrintMore
open Go.Proofs.YthgehdembghdaaaGreat.Dist
set_option linter.unusedVariables false
set_option linter.unusedSimpArgs false
end Go.Proofs.YthgehdembghdaaaGreat.P
