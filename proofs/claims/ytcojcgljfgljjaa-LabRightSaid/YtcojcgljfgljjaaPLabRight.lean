/- For every script, marks, forest, numbers and names the law LabRight of layer 25 (lab) answers true, and its arguments read behind the call as they did before. No condition. -/
import Derived.Test.YtcojcgljfgljjaaWLabRight
import Derived.Test.YtcojcgljfgljjaaLab3
namespace Go.Proofs.Ytcojcgljfgljjaa
open Go Go.Pw
theorem labRight_holds : Rows.LabRightSaid := WLabRight.step fun s l f a b x y hs _ _ _ _ _ _ => labRight s l f a b x y (Nat.le_trans hs.2.1.1 (by decide))
#print axioms labRight_holds
end Go.Proofs.Ytcojcgljfgljjaa
