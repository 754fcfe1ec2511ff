/- For any lines the law ScriptMain of layer 22 (script) answers true, and they read behind the call as they did before. No condition. -/
import Derived.Test.YtoboimmgglnjfaaGreatDoorWScriptMain
import Derived.Test.YtoboimmgglnjfaaGreatDoorLw1
namespace Go.Proofs.YtoboimmgglnjfaaGreatDoor
open Go Go.Pw
theorem scriptMain_holds : Rows.ScriptMainCardSaid := WScriptMain.step fun _ h => scriptMain fun t ht => h.2 t ht
#print axioms scriptMain_holds
end Go.Proofs.YtoboimmgglnjfaaGreatDoor
