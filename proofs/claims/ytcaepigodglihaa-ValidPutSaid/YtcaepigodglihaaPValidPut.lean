/- For every forest, numbers and truth value the law ValidPut of layer 5 (valid) answers true, and its arguments read behind the call as they did before. No condition. -/
import Derived.Test.YtcaepigodglihaaWValidPut
import Derived.Test.YtcaepigodglihaaPut4
namespace Go.Proofs.Ytcaepigodglihaa
open Go Go.Pw
theorem u8_range {a : Int} (h : wfI .u8 a) : 0 ≤ a ∧ a ≤ 255 := by
  simp only [wfI, Lit.wf, Bool.and_eq_true, decide_eq_true_eq] at h
  exact h
theorem validPut_holds : Rows.ValidPutSaid := WValidPut.step fun f a b c last _ ha hb hc _ => validPut f a b c last (u8_range ha) (u8_range hb) (u8_range hc)
#print axioms validPut_holds
end Go.Proofs.Ytcaepigodglihaa
