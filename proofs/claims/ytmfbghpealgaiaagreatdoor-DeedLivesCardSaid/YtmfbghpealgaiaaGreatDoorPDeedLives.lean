/- For any world and operation the law DeedLives of layer 18 (deed) answers true, and they read behind the call as they did before. No condition. -/
import Derived.Test.YtmfbghpealgaiaaGreatDoorWDeedLives
import Derived.Test.YtmfbghpealgaiaaGreatDoorLw3
namespace Go.Proofs.YtmfbghpealgaiaaGreatDoor
open Go Go.Pw
theorem deedLives_holds : Rows.DeedLivesCardSaid := WDeedLives.step fun w o _ _ => deedLives w o
#print axioms deedLives_holds
end Go.Proofs.YtmfbghpealgaiaaGreatDoor
