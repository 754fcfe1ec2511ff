/- Arrays of texts. No program is named here. -/
import Derived.Test.YtoboimmgglnjfaaGreatDoorMapp
namespace Go.Pw
open Go
section
variable {ρ : Type} {G:Ctx ρ} {m:Option ρ} {K:List (Kont ρ)} {E:Env} {S:Store} {all:Array Oper}
end
end Go.Pw
