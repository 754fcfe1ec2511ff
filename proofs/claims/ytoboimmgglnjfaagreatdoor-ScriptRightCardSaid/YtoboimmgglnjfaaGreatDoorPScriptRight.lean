/- For any script and text the law ScriptRight of layer 22 (script) answers true, and they read behind the call as they did before. No condition. -/
import Derived.Test.YtoboimmgglnjfaaGreatDoorWScriptRight
import Derived.Test.YtoboimmgglnjfaaGreatDoorLw2
namespace Go.Proofs.YtoboimmgglnjfaaGreatDoor
open Go Go.Pw
theorem scriptRight_holds : Rows.ScriptRightCardSaid := WScriptRight.step fun x s _ _ => scriptRight x s
#print axioms scriptRight_holds
end Go.Proofs.YtoboimmgglnjfaaGreatDoor
