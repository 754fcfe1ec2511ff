/- For every script, numbers and names the law LabKeeps of layer 25 (lab) answers true, and its arguments read behind the call as they did before. No condition. -/
import Derived.Test.YtcojcgljfgljjaaWLabKeeps
import Derived.Test.YtcojcgljfgljjaaLab4
namespace Go.Proofs.Ytcojcgljfgljjaa
open Go Go.Pw
theorem labKeeps_holds : Rows.LabKeepsSaid := WLabKeeps.step fun s a b x y hs _ _ _ _ => labKeeps s a b x y (Nat.le_trans hs.2.1.1 (by decide))
#print axioms labKeeps_holds
end Go.Proofs.Ytcojcgljfgljjaa
