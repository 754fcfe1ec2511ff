/- For any world and operation the law DeedCalm of layer 18 (deed) answers true, and they read behind the call as they did before. No condition. -/
import Derived.Test.YtmfbghpealgaiaaGreatDoorWDeedCalm
import Derived.Test.YtmfbghpealgaiaaGreatDoorLw2
namespace Go.Proofs.YtmfbghpealgaiaaGreatDoor
open Go Go.Pw
theorem deedCalm_holds : Rows.DeedCalmCardSaid := WDeedCalm.step fun w o _ _ => deedCalm w o
#print axioms deedCalm_holds
end Go.Proofs.YtmfbghpealgaiaaGreatDoor
