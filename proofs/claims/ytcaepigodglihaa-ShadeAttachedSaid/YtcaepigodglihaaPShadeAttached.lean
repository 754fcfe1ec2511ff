/- For every forest and numbers the law ShadeAttached of layer 4 (shade) answers true, and its arguments read behind the call as they did before. No condition. -/
import Derived.Test.YtcaepigodglihaaWShadeAttached
import Derived.Test.YtcaepigodglihaaSha6
namespace Go.Proofs.Ytcaepigodglihaa
open Go Go.Pw
theorem u8_range {a : Int} (h : wfI .u8 a) : 0 ≤ a ∧ a ≤ 255 := by
  simp only [wfI, Lit.wf, Bool.and_eq_true, decide_eq_true_eq] at h
  exact h
theorem shadeAttached_holds : Rows.ShadeAttachedSaid := WShadeAttached.step fun f a b _ ha hb => shadeAttached f a b (u8_range ha) (u8_range hb)
#print axioms shadeAttached_holds
end Go.Proofs.Ytcaepigodglihaa
