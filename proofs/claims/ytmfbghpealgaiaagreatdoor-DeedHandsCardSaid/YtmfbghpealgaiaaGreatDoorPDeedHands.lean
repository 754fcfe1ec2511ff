/- For any world, numbers and texts the law DeedHands of layer 18 (deed) answers true, and they read behind the call as they did before. No condition. -/
import Derived.Test.YtmfbghpealgaiaaGreatDoorWDeedHands
import Derived.Test.YtmfbghpealgaiaaGreatDoorLw3
namespace Go.Proofs.YtmfbghpealgaiaaGreatDoor
open Go Go.Pw
theorem deedHands_holds : Rows.DeedHandsCardSaid := WDeedHands.step fun w a b c s t _ ha hb _ _ _ => deedHands w a b c s t (u8_of ha) (u8_of hb)
#print axioms deedHands_holds
end Go.Proofs.YtmfbghpealgaiaaGreatDoor
