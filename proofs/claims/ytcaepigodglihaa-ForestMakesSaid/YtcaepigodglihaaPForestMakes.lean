/- For every forest and node the law ForestMakes of layer 3 (forest) answers true, and its arguments read behind the call as they did before. No condition. -/
import Derived.Test.YtcaepigodglihaaWForestMakes
import Derived.Test.YtcaepigodglihaaTre6
namespace Go.Proofs.Ytcaepigodglihaa
open Go Go.Pw
theorem forestMakes_holds : Rows.ForestMakesSaid := WForestMakes.step fun f x _ _ => forestMakes f x
#print axioms forestMakes_holds
end Go.Proofs.Ytcaepigodglihaa
