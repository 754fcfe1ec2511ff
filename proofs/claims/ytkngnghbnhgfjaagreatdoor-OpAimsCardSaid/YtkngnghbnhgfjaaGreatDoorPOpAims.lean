/- For any operation and numbers the law OpAims of layer 16 (op) answers true, and the operation reads behind the call as it did before. No condition. -/
import Derived.Test.YtkngnghbnhgfjaaGreatDoorWOpAims
import Derived.Test.YtkngnghbnhgfjaaGreatDoorOpr9
namespace Go.Proofs.YtkngnghbnhgfjaaGreatDoor
open Go Go.Pw
theorem opAims_holds : Rows.OpAimsCardSaid := WOpAims.step fun o self many other _ _ _ _ => opAims o self many other
#print axioms opAims_holds
end Go.Proofs.YtkngnghbnhgfjaaGreatDoor
