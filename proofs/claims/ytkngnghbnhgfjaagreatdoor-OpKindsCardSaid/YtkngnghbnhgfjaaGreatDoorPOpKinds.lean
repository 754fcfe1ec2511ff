/- For any operation and any text the law OpKinds of layer 16 (op) answers true, and they read behind the call as they did before. No condition. -/
import Derived.Test.YtkngnghbnhgfjaaGreatDoorWOpKinds
import Derived.Test.YtkngnghbnhgfjaaGreatDoorOpr9
namespace Go.Proofs.YtkngnghbnhgfjaaGreatDoor
open Go Go.Pw
theorem opKinds_holds : Rows.OpKindsCardSaid := WOpKinds.step fun o s _ _ => opKinds o s
#print axioms opKinds_holds
end Go.Proofs.YtkngnghbnhgfjaaGreatDoor
