/- For any two texts the law OpReads of layer 16 (op) answers true. No condition. -/
import Derived.Test.YtkngnghbnhgfjaaGreatDoorWOpReads
import Derived.Test.YtkngnghbnhgfjaaGreatDoorOpr9
namespace Go.Proofs.YtkngnghbnhgfjaaGreatDoor
open Go Go.Pw
theorem opReads_holds : Rows.OpReadsCardSaid := WOpReads.step fun s t _ _ => opReads s t
#print axioms opReads_holds
end Go.Proofs.YtkngnghbnhgfjaaGreatDoor
