/- For any list of marks and any text the law TaleRight of layer 24 (tale) answers true, and they read behind the call as they did before. No condition. -/
import Derived.Test.YtoakfflcpcdbeaaDoorWTaleRight
import Derived.Test.YtoakfflcpcdbeaaDoorTal10
namespace Go.Proofs.YtoakfflcpcdbeaaDoor
open Go Go.Pw
theorem i64_range {a : Int} (h : wfI .i64 a) : inI a := by
  simp only [wfI, Lit.wf, Bool.and_eq_true, decide_eq_true_eq] at h
  exact h
theorem num_of {m : Mark} (h : WTaleRight.wfMark m) : NumM m := ⟨i64_range h.2.1, i64_range h.2.2.1, i64_range h.2.2.2.1, i64_range h.2.2.2.2.1, i64_range h.2.2.2.2.2.2.2.2.2.2.1, i64_range h.2.2.2.2.2.2.2.2.2.2.2.1⟩
theorem taleRight_holds : Rows.TaleRightCardSaid := WTaleRight.step fun l s hl _ => taleRight l s (fun x hx => num_of (hl.2 x hx))
#print axioms taleRight_holds
end Go.Proofs.YtoakfflcpcdbeaaDoor
