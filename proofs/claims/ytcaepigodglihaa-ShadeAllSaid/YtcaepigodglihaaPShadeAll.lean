/- For every forest and numbers the law ShadeAll of layer 4 (shade) answers true, and its arguments read behind the call as they did before. No condition. -/
import Derived.Test.YtcaepigodglihaaWShadeAll
import Derived.Test.YtcaepigodglihaaSha4
namespace Go.Proofs.Ytcaepigodglihaa
open Go Go.Pw
theorem u8_range {a : Int} (h : wfI .u8 a) : 0 ≤ a ∧ a ≤ 255 := by
  simp only [wfI, Lit.wf, Bool.and_eq_true, decide_eq_true_eq] at h
  exact h
theorem shadeAll_holds : Rows.ShadeAllSaid := WShadeAll.step fun f a _ ha => shadeAll f a (u8_range ha)
#print axioms shadeAll_holds
end Go.Proofs.Ytcaepigodglihaa
