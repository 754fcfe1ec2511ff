/- For every forest and numbers the law ForestHolds of layer 3 (forest) answers true, and its arguments read behind the call as they did before. No condition. -/
import Derived.Test.YtcaepigodglihaaWForestHolds
import Derived.Test.YtcaepigodglihaaTre4
namespace Go.Proofs.Ytcaepigodglihaa
open Go Go.Pw
theorem u8_range {a : Int} (h : wfI .u8 a) : 0 ≤ a ∧ a ≤ 255 := by
  simp only [wfI, Lit.wf, Bool.and_eq_true, decide_eq_true_eq] at h
  exact h
theorem forestHolds_holds : Rows.ForestHoldsSaid := WForestHolds.step fun f a b c _ ha hb hc => forestHolds f a b c (u8_range ha) (u8_range hb) (u8_range hc)
#print axioms forestHolds_holds
end Go.Proofs.Ytcaepigodglihaa
