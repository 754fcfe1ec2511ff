/- For every forest and numbers the law ValidSwap of layer 5 (valid) answers true, and its arguments read behind the call as they did before. No condition. -/
import Derived.Test.YtcaepigodglihaaWValidSwap
import Derived.Test.YtcaepigodglihaaSwa2
namespace Go.Proofs.Ytcaepigodglihaa
open Go Go.Pw
theorem u8_range {a : Int} (h : wfI .u8 a) : 0 ≤ a ∧ a ≤ 255 := by
  simp only [wfI, Lit.wf, Bool.and_eq_true, decide_eq_true_eq] at h
  exact h
theorem validSwap_holds : Rows.ValidSwapSaid := WValidSwap.step fun f a b c _ ha hb hc => validSwap f a b c (u8_range ha) (u8_range hb) (u8_range hc)
#print axioms validSwap_holds
end Go.Proofs.Ytcaepigodglihaa
