/- For any operation the law OpBack of layer 16 (op) answers true, and it reads behind the call as it did before. No condition. -/
import Derived.Test.YtkngnghbnhgfjaaGreatDoorWOpBack
import Derived.Test.YtkngnghbnhgfjaaGreatDoorOpr9
namespace Go.Proofs.YtkngnghbnhgfjaaGreatDoor
open Go Go.Pw
theorem opBack_holds : Rows.OpBackCardSaid := WOpBack.step fun o _ => opBack o
#print axioms opBack_holds
end Go.Proofs.YtkngnghbnhgfjaaGreatDoor
