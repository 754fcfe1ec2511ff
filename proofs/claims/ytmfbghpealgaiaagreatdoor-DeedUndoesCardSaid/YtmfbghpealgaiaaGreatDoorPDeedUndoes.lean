/- For any world, number and texts the law DeedUndoes of layer 18 (deed) answers true, and they read behind the call as they did before. No condition. -/
import Derived.Test.YtmfbghpealgaiaaGreatDoorWDeedUndoes
import Derived.Test.YtmfbghpealgaiaaGreatDoorLw3
namespace Go.Proofs.YtmfbghpealgaiaaGreatDoor
open Go Go.Pw
theorem deedUndoes_holds : Rows.DeedUndoesCardSaid := WDeedUndoes.step fun w a s t _ ha _ _ => deedUndoes w a s t (u8_of ha)
#print axioms deedUndoes_holds
end Go.Proofs.YtmfbghpealgaiaaGreatDoor
