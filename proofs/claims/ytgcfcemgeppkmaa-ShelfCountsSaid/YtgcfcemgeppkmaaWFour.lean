-- CUT by prune.py, a program of this session, out of the words of the kit's print: what this claim's texts name
import Derived.Test.YtgcfcemgeppkmaaWTab
/-! ### 56. Four, five, six operations that may come up next, in any order -/
namespace Go.Proofs.YtgcfcemgeppkmaaW.PrintLast
section
variable {P : Program} {ops : Array Oper} {Q : Exit → Act → World → Prop} {md : Region.Mode} {S : World → Prop} {ds : List Nat} {T : Bool × List (List Nat × List Nat)}
end
end Go.Proofs.YtgcfcemgeppkmaaW.PrintLast
