/- For any world and operation the law DeedKeeps of layer 18 (deed) answers true, and they read behind the call as they did before. No condition. -/
import Derived.Test.YtmfbghpealgaiaaGreatDoorWDeedKeeps
import Derived.Test.YtmfbghpealgaiaaGreatDoorLw3
namespace Go.Proofs.YtmfbghpealgaiaaGreatDoor
open Go Go.Pw
theorem deedKeeps_holds : Rows.DeedKeepsCardSaid := WDeedKeeps.step fun w o _ _ => deedKeeps w o
#print axioms deedKeeps_holds
end Go.Proofs.YtmfbghpealgaiaaGreatDoor
