/- For any script the law ScriptBack of layer 22 (script) answers true, and it reads behind the call as it did before. No condition. -/
import Derived.Test.YtoboimmgglnjfaaGreatDoorWScriptBack
import Derived.Test.YtoboimmgglnjfaaGreatDoorLw1
namespace Go.Proofs.YtoboimmgglnjfaaGreatDoor
open Go Go.Pw
theorem scriptBack_holds : Rows.ScriptBackCardSaid := WScriptBack.step fun x _ => scriptBack x
#print axioms scriptBack_holds
end Go.Proofs.YtoboimmgglnjfaaGreatDoor
