/- The least and the greatest of two numbers; functions that read nothing. No program is named here. -/
import Derived.Test.YtoboimmgglnjfaaGreatDoorEq
namespace Go.Pw
open Go
section
variable {ρ : Type} {G:Ctx ρ} {m:Option ρ} {K:List (Kont ρ)} {E:Env} {S:Store} {all:Array Oper}
end
theorem zQ3 {L:World->Prop} {P:Program} {f:FuncId} {ps:List PV} {us:List Value} {u:Value} (hps:ps=us.map PV.v) (hfl:us.all flat=true) (h:∀w,Calls P f ⟨us⟩ w fun e w'=>e=.returned u/\w'=w) (hr:flat u=true):DC L P f ps (.v u):=by
 subst hps
 intro X σ φ w vs _ hi ha
 have:vs=us:=by
  apply List.ext_getElem?
  intro i
  obtain ⟨l1,l2⟩:=ha
  rw [List.length_map] at l1
  rcases Nat.lt_or_ge i us.length with hlt | hge
  ·have hv:i<vs.length:=by omega
   have:=l2 i (.v us[i]) vs[i] (by rw [List.getElem?_map,List.getElem?_eq_getElem hlt];rfl) (List.getElem?_eq_getElem hv)
   rw [List.getElem?_eq_getElem hlt,List.getElem?_eq_getElem hv,this.flat_inv.1]
  ·rw [List.getElem?_eq_none (by omega),List.getElem?_eq_none hge]
 subst this
 refine (h w).mono ?_
 rintro e w' ⟨rfl,rfl⟩
 exact ⟨_,_,σ,φ,u,rfl,⟨rfl,rfl⟩,hi,.d (.v hr),Fr.refl _ _,fun n hn=>(by cases hn),fun b hb=>(by obtain ⟨n,k,hm,_⟩:=hb;cases hm)⟩
end Go.Pw
