/- For any text the law TaleReads of layer 24 (tale) answers true. No condition. -/
import Derived.Test.YtoakfflcpcdbeaaDoorWTaleReads
import Derived.Test.YtoakfflcpcdbeaaDoorTal5
namespace Go.Proofs.YtoakfflcpcdbeaaDoor
open Go Go.Pw
theorem i64_range {a : Int} (h : wfI .i64 a) : inI a := by
  simp only [wfI, Lit.wf, Bool.and_eq_true, decide_eq_true_eq] at h
  exact h
theorem taleReads_holds : Rows.TaleReadsCardSaid := WTaleReads.step fun s _ => taleReads s
#print axioms taleReads_holds
end Go.Proofs.YtoakfflcpcdbeaaDoor
