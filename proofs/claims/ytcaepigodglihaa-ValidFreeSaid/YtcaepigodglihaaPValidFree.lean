/- For every forest and numbers the law ValidFree of layer 5 (valid) answers true, and its arguments read behind the call as they did before. No condition. -/
import Derived.Test.YtcaepigodglihaaWValidFree
import Derived.Test.YtcaepigodglihaaVal1
namespace Go.Proofs.Ytcaepigodglihaa
open Go Go.Pw
theorem u8_range {a : Int} (h : wfI .u8 a) : 0 ≤ a ∧ a ≤ 255 := by
  simp only [wfI, Lit.wf, Bool.and_eq_true, decide_eq_true_eq] at h
  exact h
theorem validFree_holds : Rows.ValidFreeSaid := WValidFree.step fun f a b c _ ha hb hc => validFree f a b c (u8_range ha) (u8_range hb) (u8_range hc)
#print axioms validFree_holds
end Go.Proofs.Ytcaepigodglihaa
