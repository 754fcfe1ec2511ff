/- For every forest and numbers the law ShadeRight of layer 4 (shade) answers true, and its arguments read behind the call as they did before. No condition. -/
import Derived.Test.YtcaepigodglihaaWShadeRight
import Derived.Test.YtcaepigodglihaaSha5
namespace Go.Proofs.Ytcaepigodglihaa
open Go Go.Pw
theorem shadeRight_holds : Rows.ShadeRightSaid := WShadeRight.step fun f a b _ _ _ => shadeRight f a b
#print axioms shadeRight_holds
end Go.Proofs.Ytcaepigodglihaa
