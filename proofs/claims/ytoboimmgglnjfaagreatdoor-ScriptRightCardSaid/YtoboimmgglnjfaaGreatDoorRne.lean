/- A letter's text, and a look into a map that tells whether something is there. No program is named here. -/
import Derived.Test.YtoboimmgglnjfaaGreatDoorNst
namespace Go.Pw
open Go Go.MapKept
section
variable {ρ : Type} {G:Ctx ρ} {m:Option ρ} {K:List (Kont ρ)} {E:Env} {S:Store} {all:Array Oper}
end
end Go.Pw
