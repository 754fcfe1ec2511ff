/- For any text and number the law ScriptReads of layer 22 (script) answers true, and they read behind the call as they did before. No condition. -/
import Derived.Test.YtoboimmgglnjfaaGreatDoorWScriptReads
import Derived.Test.YtoboimmgglnjfaaGreatDoorLw1
namespace Go.Proofs.YtoboimmgglnjfaaGreatDoor
open Go Go.Pw
theorem u16_range {a : Int} (h : wfI .u16 a) : 0 ≤ a ∧ a ≤ 65535 := by
  simp only [wfI, Lit.wf, Bool.and_eq_true, decide_eq_true_eq] at h
  exact h
theorem scriptReads_holds : Rows.ScriptReadsCardSaid := WScriptReads.step fun _ _ _ h => scriptReads (u16_range h).1 (u16_range h).2
#print axioms scriptReads_holds
end Go.Proofs.YtoboimmgglnjfaaGreatDoor
