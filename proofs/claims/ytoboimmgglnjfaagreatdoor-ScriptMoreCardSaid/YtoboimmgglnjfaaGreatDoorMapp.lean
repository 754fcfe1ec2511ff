/- Maps with numbers or texts for keys, made and turned by the call itself. No program is named here. -/
import Derived.Test.YtoboimmgglnjfaaGreatDoorNil
import Derived.MapKept
namespace Go.Pw
open Go Go.MapKept
structure KeyEnc {κ : Type} (d:TypeDesc) (key : κ -> Value):Prop where
 isKey:∀a,IsKey d (key a)
 inj:∀a b,key a=key b->a=b
section
variable {ρ : Type} {G:Ctx ρ} {m:Option ρ} {K:List (Kont ρ)} {E:Env} {S:Store} {all:Array Oper}
def datQ:PV->Bool
 | .agg cs=>cs.all datP
 | p=>datP p
theorem R.toRDQ {σ : Nat->Value} {w:World} {D:Nat->Prop} {p:PV} {u:Value} (r:R σ w D p u) (h:datQ p=true):RD w D p u:=by
 cases p with
 | agg cs =>
  cases r with
  | d hd=>exact hd
  | agg hl hi=>exact .agg hl fun i c u hc hu=>(hi i c u hc hu).toRD (List.all_eq_true.1 h c (List.mem_of_getElem? hc))
 | _=>exact r.toRD h
end
end Go.Pw
