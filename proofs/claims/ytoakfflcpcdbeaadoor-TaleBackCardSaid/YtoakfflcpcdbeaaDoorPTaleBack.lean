/- For any two lists of marks the law TaleBack of layer 24 (tale) answers true, and they read behind the call as they did before. No condition. -/
import Derived.Test.YtoakfflcpcdbeaaDoorWTaleBack
import Derived.Test.YtoakfflcpcdbeaaDoorTal5
namespace Go.Proofs.YtoakfflcpcdbeaaDoor
open Go Go.Pw
theorem i64_range {a : Int} (h : wfI .i64 a) : inI a := by
  simp only [wfI, Lit.wf, Bool.and_eq_true, decide_eq_true_eq] at h
  exact h
theorem num_of {m : Mark} (h : WTaleBack.wfMark m) : NumM m := ⟨i64_range h.2.1, i64_range h.2.2.1, i64_range h.2.2.2.1, i64_range h.2.2.2.2.1, i64_range h.2.2.2.2.2.2.2.2.2.2.1, i64_range h.2.2.2.2.2.2.2.2.2.2.2.1⟩
theorem taleBack_holds : Rows.TaleBackCardSaid := WTaleBack.step fun l m hl hm => taleBack l m (fun x hx => num_of (hl.2 x hx)) (fun x hx => num_of (hm.2 x hx))
#print axioms taleBack_holds
end Go.Proofs.YtoakfflcpcdbeaaDoor
