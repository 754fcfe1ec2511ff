/- For every forest and numbers the law ForestOrder of layer 3 (forest) answers true, and its arguments read behind the call as they did before. No condition. -/
import Derived.Test.YtcaepigodglihaaWForestOrder
import Derived.Test.YtcaepigodglihaaTre5
namespace Go.Proofs.Ytcaepigodglihaa
open Go Go.Pw
theorem u8_range {a : Int} (h : wfI .u8 a) : 0 ≤ a ∧ a ≤ 255 := by
  simp only [wfI, Lit.wf, Bool.and_eq_true, decide_eq_true_eq] at h
  exact h
theorem forestOrder_holds : Rows.ForestOrderSaid := WForestOrder.step fun f a b _ ha hb => forestOrder f a b (u8_range ha) (u8_range hb)
#print axioms forestOrder_holds
end Go.Proofs.Ytcaepigodglihaa
