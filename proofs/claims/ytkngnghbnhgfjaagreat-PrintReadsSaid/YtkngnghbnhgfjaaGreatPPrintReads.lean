/- For every forest, text and number the law PrintReads of layer 8 (print) answers true, and its arguments read behind the call as they did before. No condition. -/
import Derived.Test.YtkngnghbnhgfjaaGreatWPrintReads
import Derived.Test.YtkngnghbnhgfjaaGreatLw1
namespace Go.Proofs.YtkngnghbnhgfjaaGreat
open Go Go.Pw
theorem u16_range {a : Int} (h : wfI .u16 a) : 0 ≤ a ∧ a ≤ 65535 := by
  simp only [wfI, Lit.wf, Bool.and_eq_true, decide_eq_true_eq] at h
  exact h
theorem printReads_holds : Rows.PrintReadsSaid := WPrintReads.step fun f s a _ _ ha => printReads f s a (u16_range ha)
#print axioms printReads_holds
end Go.Proofs.YtkngnghbnhgfjaaGreat
