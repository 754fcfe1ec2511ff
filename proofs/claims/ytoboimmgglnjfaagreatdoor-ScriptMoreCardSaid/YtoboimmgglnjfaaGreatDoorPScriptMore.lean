/- For any script, operations and class the law ScriptMore of layer 22 (script) answers true, and they read behind the call as they did before. No condition. -/
import Derived.Test.YtoboimmgglnjfaaGreatDoorWScriptMore
import Derived.Test.YtoboimmgglnjfaaGreatDoorLw1
namespace Go.Proofs.YtoboimmgglnjfaaGreatDoor
open Go Go.Pw
theorem scriptMore_holds : Rows.ScriptMoreCardSaid := WScriptMore.step fun _ _ _ _ h _ => scriptMore h.1
#print axioms scriptMore_holds
end Go.Proofs.YtoboimmgglnjfaaGreatDoor
