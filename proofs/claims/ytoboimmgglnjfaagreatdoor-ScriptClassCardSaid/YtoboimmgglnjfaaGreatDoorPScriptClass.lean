/- For any form, name and number the law ScriptClass of layer 22 (script) answers true, and they read behind the call as they did before. No condition. -/
import Derived.Test.YtoboimmgglnjfaaGreatDoorWScriptClass
import Derived.Test.YtoboimmgglnjfaaGreatDoorLw1
namespace Go.Proofs.YtoboimmgglnjfaaGreatDoor
open Go Go.Pw
theorem u8_nonneg {a : Int} (h : wfI .u8 a) : 0 ≤ a := by
  simp only [wfI, Lit.wf, Bool.and_eq_true, decide_eq_true_eq] at h
  exact h.1
theorem scriptClass_holds : Rows.ScriptClassCardSaid := WScriptClass.step fun _ _ _ _ _ h => scriptClass (u8_nonneg h)
#print axioms scriptClass_holds
end Go.Proofs.YtoboimmgglnjfaaGreatDoor
