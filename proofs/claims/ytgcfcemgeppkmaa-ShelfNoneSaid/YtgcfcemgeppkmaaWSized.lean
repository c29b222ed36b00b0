-- CUT by prune.py, a program of this session, out of the words of the kit's print: what this claim's texts name
import Derived.SizedLaws
import Derived.ChangeSlices
namespace Go.Proofs.YtgcfcemgeppkmaaW.PrintWords
open Go.ChangeShapes Go.WideShapes
end Go.Proofs.YtgcfcemgeppkmaaW.PrintWords
