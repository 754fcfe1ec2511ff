/- Maps with numbers or texts for keys, made and turned by the call itself. No program is named here. -/
import Derived.Test.YtoboimmgglnjfaaGreatDoorNil
import Derived.MapKept
namespace Go.Pw
open Go Go.MapKept
structure KeyEnc {κ : Type} (d:TypeDesc) (key : κ -> Value):Prop where
 isKey:∀a,IsKey d (key a)
 inj:∀a b,key a=key b->a=b
section
variable {ρ : Type} {G:Ctx ρ} {m:Option ρ} {K:List (Kont ρ)} {E:Env} {S:Store} {all:Array Oper}
def datQ:PV->Bool
 | .agg cs=>cs.all datP
 | p=>datP p
theorem R.toRDQ {σ : Nat->Value} {w:World} {D:Nat->Prop} {p:PV} {u:Value} (r:R σ w D p u) (h:datQ p=true):RD w D p u:=by
 cases p with
 | agg cs =>
  cases r with
  | d hd=>exact hd
  | agg hl hi=>exact .agg hl fun i c u hc hu=>(hi i c u hc hu).toRD (List.all_eq_true.1 h c (List.mem_of_getElem? hc))
 | _=>exact r.toRD h
def remI (a b:Int):Option Int:=if b=0 then none else some (a.tmod b)
theorem zTF {o:Oper} {t yt:TypeId} {x y:Operand} {k:IntKind} {a b c:Int} (ho:o.op=.binOp .rem t x y yt) (hx:ev E x=some (.v (.int k a))) (hy:ev E y=some (.v (.int k b))) (hc:remI a b=some c)
  {σ : Nat->Value} {φ : Nat->Nat->Prop} {w:World} {ac:Act} (hp:Pre' G E S ac w σ φ):zB9 G S o σ φ ac w (.v (.int k c)):=by
 obtain ⟨e1,_⟩:=(zBI hp.env hx).flat_inv
 obtain ⟨e2,_⟩:=(zBI hp.env hy).flat_inv
 unfold remI at hc
 split at hc
 ·cases hc
 rename_i hb
 cases hc
 have hrun:(execOp ac.eval o).run G.P w=.ok (.value (.int k (a.tmod b))) w:=by
  simp [execOp,ho,e1,e2,zEE,binOp,Op.intDiv,hb]
 unfold zB9
 rw [hrun]
 exact ⟨rfl,.d (.v rfl)⟩
theorem po_rem {o:Oper} {rest:List Oper} {t yt:TypeId} {x y:Operand} {k:IntKind} {a b:Int} {d:Nat} {f:Int->Option ρ} (ho:o.op=.binOp .rem t x y yt) (hg:gE all E o=some true) (hx:ev E x=some (.v (.int k a))) (hy:ev E y=some (.v (.int k b))) (hd:o.dst=some d) (hlt:Nat.blt d G.fn.ntmps=true)
  (kk:∀c,remI a b=some c->PO G (f c) all rest K ((d,.v (.int k c))::E) S):PO G (bnd (remI a b) f) all (o::rest) K E S :=
 zGD fun c hc=>zEi hg (fun _ _ _ _ hp=>zTF ho hx hy hc hp) hd hlt (kk c hc)
end
end Go.Pw
