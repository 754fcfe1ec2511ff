/- For every forest and number the law PrintParts of layer 8 (print) answers true, and its arguments read behind the call as they did before. No condition. -/
import Derived.Test.YtkngnghbnhgfjaaGreatWPrintParts
import Derived.Test.YtkngnghbnhgfjaaGreatLw1
namespace Go.Proofs.YtkngnghbnhgfjaaGreat
open Go Go.Pw
theorem u8_range {a : Int} (h : wfI .u8 a) : 0 ≤ a ∧ a ≤ 255 := by
  simp only [wfI, Lit.wf, Bool.and_eq_true, decide_eq_true_eq] at h
  exact h
theorem printParts_holds : Rows.PrintPartsSaid := WPrintParts.step fun f a _ ha => printParts f a (u8_range ha)
#print axioms printParts_holds
end Go.Proofs.YtkngnghbnhgfjaaGreat
