/- For every script, marks, forest, numbers and names the law LabTwice of layer 25 (lab) answers true, and its arguments read behind the call as they did before. No condition. -/
import Derived.Test.YtcojcgljfgljjaaWLabTwice
import Derived.Test.YtcojcgljfgljjaaLab5
namespace Go.Proofs.Ytcojcgljfgljjaa
open Go Go.Pw
theorem labTwice_holds : Rows.LabTwiceSaid := WLabTwice.step fun s l f a b x y hs _ _ _ _ _ _ => labTwice s l f a b x y (Nat.le_trans hs.2.1.1 (by decide))
#print axioms labTwice_holds
end Go.Proofs.Ytcojcgljfgljjaa
