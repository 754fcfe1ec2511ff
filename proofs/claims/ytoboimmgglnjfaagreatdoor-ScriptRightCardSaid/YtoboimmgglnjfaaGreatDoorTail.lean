/- The end of a slice of the call's own, made empty. No program is named here. -/
import Derived.Test.YtoboimmgglnjfaaGreatDoorBack
namespace Go.Pw
open Go
section
variable {ρ : Type} {G:Ctx ρ} {m:Option ρ} {K:List (Kont ρ)} {E:Env} {S:Store} {all:Array Oper}
theorem zPK {a:Act} {d:Nat} {v:Value} (h:d<a.tmps.size):(a.put (some d) v).eval (.tmp d)=v:=by
 simp [Act.put,Act.eval,h]
end
end Go.Pw
