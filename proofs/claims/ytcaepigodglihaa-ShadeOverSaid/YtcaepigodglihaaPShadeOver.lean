/- For every forest and numbers the law ShadeOver of layer 4 (shade) answers true, and its arguments read behind the call as they did before. No condition. -/
import Derived.Test.YtcaepigodglihaaWShadeOver
import Derived.Test.YtcaepigodglihaaSha3
namespace Go.Proofs.Ytcaepigodglihaa
open Go Go.Pw
theorem u8_range {a : Int} (h : wfI .u8 a) : 0 ≤ a ∧ a ≤ 255 := by
  simp only [wfI, Lit.wf, Bool.and_eq_true, decide_eq_true_eq] at h
  exact h
theorem shadeOver_holds : Rows.ShadeOverSaid := WShadeOver.step fun f a b c _ ha hb hc => shadeOver f a b c (u8_range ha) (u8_range hb) (u8_range hc)
#print axioms shadeOver_holds
end Go.Proofs.Ytcaepigodglihaa
