/- For every forest, node and numbers the law ForestRight of layer 3 (forest) answers true, and its arguments read behind the call as they did before. No condition. -/
import Derived.Test.YtcaepigodglihaaWForestRight
import Derived.Test.YtcaepigodglihaaTre9
namespace Go.Proofs.Ytcaepigodglihaa
open Go Go.Pw
theorem forestRight_holds : Rows.ForestRightSaid := WForestRight.step fun f x m a b _ _ _ _ _ => forestRight f x m a b
#print axioms forestRight_holds
end Go.Proofs.Ytcaepigodglihaa
