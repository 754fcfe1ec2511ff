/- For every forest and number the law PrintBack of layer 8 (print) answers true, and its arguments read behind the call as they did before. No condition. -/
import Derived.Test.YtkngnghbnhgfjaaGreatWPrintBack
import Derived.Test.YtkngnghbnhgfjaaGreatLw2
namespace Go.Proofs.YtkngnghbnhgfjaaGreat
open Go Go.Pw
theorem u8_range {a : Int} (h : wfI .u8 a) : 0 ≤ a ∧ a ≤ 255 := by
  simp only [wfI, Lit.wf, Bool.and_eq_true, decide_eq_true_eq] at h
  exact h
theorem printBack_holds : Rows.PrintBackSaid := WPrintBack.step fun f a _ ha => printBack f a (u8_range ha)
#print axioms printBack_holds
end Go.Proofs.YtkngnghbnhgfjaaGreat
