/- For any two marks the law TaleOne of layer 24 (tale) answers true, and they read behind the call as they did before. No condition. -/
import Derived.Test.YtoakfflcpcdbeaaDoorWTaleOne
import Derived.Test.YtoakfflcpcdbeaaDoorTal5
namespace Go.Proofs.YtoakfflcpcdbeaaDoor
open Go Go.Pw
theorem i64_range {a : Int} (h : wfI .i64 a) : inI a := by
  simp only [wfI, Lit.wf, Bool.and_eq_true, decide_eq_true_eq] at h
  exact h
theorem num_of {m : Mark} (h : WTaleOne.wfMark m) : NumM m := ⟨i64_range h.2.1, i64_range h.2.2.1, i64_range h.2.2.2.1, i64_range h.2.2.2.2.1, i64_range h.2.2.2.2.2.2.2.2.2.2.1, i64_range h.2.2.2.2.2.2.2.2.2.2.2.1⟩
theorem taleOne_holds : Rows.TaleOneCardSaid := WTaleOne.step fun a b ha hb => taleOne a b (num_of ha) (num_of hb)
#print axioms taleOne_holds
end Go.Proofs.YtoakfflcpcdbeaaDoor
