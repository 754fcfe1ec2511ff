/- Are two structs the same? No program is named here. -/
import Derived.Test.YtoboimmgglnjfaaGreatDoorIter
namespace Go.Pw
open Go
def zNp (P : Program) (f : Field) : Option (Nat × TypeId × Base) := if f.name != "_" then (zGL P f.type).map fun b => (f.offset, f.type, b) else none
def eqOf (P:Program) (t:TypeId):Option (List (Nat×TypeId×Base)) :=
 match P.underlying t with
 | some (.struct fs)=>bif P.eqGuardType P.depth t||P.stoodInHeld t then none else mapO (zNp P) fs.toList
 | _=>none
def eq1:Base->PV->PV->Option Bool
 | .int _,.v (.int k a),.v (.int k' b)=>bif decide (k=k') then some (a==b) else none
 | .string,.v (.string ⟨⟨a⟩⟩),.v (.string ⟨⟨b⟩⟩)=>some (a==b)
 | .bool,.v (.bool a),.v (.bool b)=>some (a==b)
 | _,_,_=>none
def eqE:List (Nat×TypeId×Base)->List PV->List PV->Option Bool
 | [],_,_=>some true
 | (off,_,b)::l,cs,ds=>match nthE cs off,nthE ds off with
  | some p,some q=>(match eq1 b p q with
   | some r=>(match eqE l cs ds with
    | some s=>some (r&&s)
    | none=>none)
   | none=>none)
  | _,_=>none
section
variable {ρ : Type} {G:Ctx ρ} {m:Option ρ} {K:List (Kont ρ)} {E:Env} {S:Store} {all:Array Oper}
theorem zQZ {P:Program} {t:TypeId} (h:zGL P t=some .bool):P.underlying t=some .bool:=by
 unfold zGL at h
 split at h<;>simp_all
theorem zQa {a b:List UInt8}:((⟨⟨a⟩⟩:ByteArray)==⟨⟨b⟩⟩)=(a==b):=by
 have e:((⟨⟨a⟩⟩:ByteArray)==⟨⟨b⟩⟩)=((⟨a⟩:Array UInt8)==⟨b⟩):=rfl
 rw [e]
 by_cases h:a=b
 ·subst h;simp
 ·have:¬((⟨a⟩:Array UInt8)=⟨b⟩):=fun e=>h (by injection e)
  rw [beq_eq_false_iff_ne.2 this,beq_eq_false_iff_ne.2 h]
theorem zWD {P:Program} {σ : Nat->Value} {D:Nat->Prop} {w:World} {t:TypeId} {b:Base} {p q:PV} {u v:Value} {r:Bool} {d:Nat} (ht:zGL P t=some b) (hp:R σ w D p u) (hq:R σ w D q v) (h:eq1 b p q=some r):(Op.equalIn (d+1) t u v).run P w=.ok r w:=by
 unfold eq1 at h
 split at h<;>try simp at h
 ·rename_i k0 k a k' b'
  obtain ⟨rfl,_⟩:=hp.flat_inv
  obtain ⟨rfl,_⟩:=hq.flat_inv
  by_cases hk:k=k'
  ·subst hk
   simp at h;subst h
   unfold Op.equalIn
   simp [run_underlying (zIa ht)]
  ·simp [hk] at h
 ·obtain ⟨rfl,_⟩:=hp.flat_inv
  obtain ⟨rfl,_⟩:=hq.flat_inv
  subst h
  unfold Op.equalIn
  simp [run_underlying (zEB ht),zQa]
 ·obtain ⟨rfl,_⟩:=hp.flat_inv
  obtain ⟨rfl,_⟩:=hq.flat_inv
  subst h
  unfold Op.equalIn
  simp [run_underlying (zQZ ht)]
theorem zOX {P:Program} {t:TypeId} {b:Base} {w:World} (h:zGL P t=some b):(isAgg t).run P w=.ok false w:=by
 unfold zGL at h
 split at h<;>simp at h<;>rename_i hu<;>simp [isAgg,run_underlying hu]
theorem zSe {P:Program} {σ : Nat->Value} {D:Nat->Prop} {w:World} {cs ds:List PV} {us vs:List Value} (h1:cs.length=us.length) (h2:ds.length=vs.length) (hc:∀(i:Nat) (c:PV) (x:Value),cs[i]? = some c->us[i]? = some x->R σ w D c x)
  (hd:∀(i:Nat) (c:PV) (x:Value),ds[i]? = some c->vs[i]? = some x->R σ w D c x) {d:Nat}:∀{fs:List Field} {l:List (Nat×TypeId×Base)} {r:Bool},mapO (zNp P) fs=some l->eqE l cs ds=some r ->
  (forIn fs ((none,()):Option Bool×Unit) fun f _=>(do
   if f.name ≠ "_" then
    if !(<- Op.equalIn (d+1) f.type (<- part f.type ⟨us⟩ f.offset) (<- part f.type ⟨vs⟩ f.offset)) then pure (ForInStep.done (some false,())) else pure (ForInStep.yield (none,()))
   else pure (ForInStep.yield (none,())):Sem (ForInStep (Option Bool×Unit)))).run P w=.ok (if r then none else some false,()) w
 | [],l,r,hl,hr=>by
  simp [mapO] at hl;subst hl
  simp [eqE] at hr;subst hr
  simp
 | f::fs,l,r,hl,hr=>by
  simp only [mapO] at hl
  split at hl<;>try simp at hl
  rename_i y hy
  split at hl<;>simp at hl
  rename_i l' hl'
  subst hl
  unfold zNp at hy
  split at hy
  ·rename_i hn
   obtain ⟨b,hb,rfl⟩:=Option.map_eq_some_iff.1 hy
   simp only [eqE] at hr
   split at hr<;>try simp at hr
   rename_i p q hp hq
   split at hr<;>try simp at hr
   rename_i r1 hr1
   split at hr<;>simp at hr
   rename_i s hs
   subst hr
   rw [zG0] at hp hq
   have l1:f.offset<us.length:=by rw [<- h1];exact (List.getElem?_eq_some_iff.1 hp).1
   have l2:f.offset<vs.length:=by rw [<- h2];exact (List.getElem?_eq_some_iff.1 hq).1
   have hn' : f.name ≠ "_" := by simpa using hn
   have p1:(part f.type ⟨us⟩ f.offset).run P w=.ok us[f.offset] w:=by simp [part,zOX hb,List.getElem?_eq_getElem l1]
   have p2:(part f.type ⟨vs⟩ f.offset).run P w=.ok vs[f.offset] w:=by simp [part,zOX hb,List.getElem?_eq_getElem l2]
   have e1:=zWD (d:=d) hb (hc _ _ _ hp (List.getElem?_eq_getElem l1)) (hd _ _ _ hq (List.getElem?_eq_getElem l2)) hr1
   have ih:=zSe h1 h2 hc hd (d:=d) hl' hs
   simp only [List.forIn_cons,Sem.run_bind,if_pos hn',p1,p2,e1,Result.andThen_ok]
   cases r1
   ·simp
   ·simp only [Bool.not_true,Bool.false_eq_true,if_false,Sem.run_pure,Result.andThen_ok,Bool.true_and]
    exact ih
  ·simp at hy
theorem zNJ {P:Program} {σ : Nat->Value} {D:Nat->Prop} {w:World} {t:TypeId} {l:List (Nat×TypeId×Base)} {cs ds:List PV} {u v:Value} {r:Bool} (ht:eqOf P t=some l) (hu:R σ w D (.agg cs) u) (hv:R σ w D (.agg ds) v) (h:eqE l cs ds=some r) :
  (Op.equal t u v).run P w=.ok r w/\∀op x y,(eqGuard op t x y u v).run P w=.ok () w:=by
 obtain ⟨us,rfl,h1,h2⟩:=hu.agg_inv
 obtain ⟨vs,rfl,h3,h4⟩:=hv.agg_inv
 unfold eqOf at ht
 split at ht<;>try simp at ht
 rename_i fs hfs
 cases hb:(P.eqGuardType P.depth t||P.stoodInHeld t)<;>simp only [hb,cond_true,cond_false] at ht
 ·rw [Bool.or_eq_false_iff] at hb
  refine ⟨?_,fun op x y=>?_⟩
  ·show (Op.equalIn (9998+1+1) t _ _).run P w=_
   have:=zSe (P:=P) (d:=9998) h1 h3 h2 h4 ht h
   unfold Op.equalIn
   have hfa:fs=⟨fs.toList⟩:=rfl
   simp only [Sem.run_bind,run_underlying hfs,Result.andThen_ok,run_program,hb.2,Bool.false_eq_true,if_false]
   rw [hfa,List.forIn_toArray,this]
   cases r<;>simp
  ·have h0:=hb.1
   cases op<;>simp [eqGuard,run_program,h0]
 ·simp at ht
theorem zVQ {o:Oper} {t yt:TypeId} {x y:Operand} {l:List (Nat×TypeId×Base)} {cs ds:List PV} {r:Bool} (ht:eqOf G.P t=some l) (ho:o.op=.binOp .eql t x y yt) (hx:ev E x=some (.agg cs)) (hy:ev E y=some (.agg ds)) (h:eqE l cs ds=some r)
  {σ : Nat->Value} {φ : Nat->Nat->Prop} {w:World} {a:Act} (hp:Pre' G E S a w σ φ):zB9 G S o σ φ a w (.v (.bool r)):=by
 have hu:=zBI hp.env hx
 have hv:=zBI hp.env hy
 obtain ⟨h1,h2⟩:=zNJ ht hu hv h
 obtain ⟨us,e1,_⟩:=hu.agg_inv
 obtain ⟨vs,e2,_⟩:=hv.agg_inv
 unfold zB9
 have:(execOp a.eval o).run G.P w=.ok (.value (.bool r)) w:=by
  have hb:(binOp .eql t (a.eval x) (a.eval y)).run G.P w=.ok (.bool r) w:=by
   rw [e1,e2] at h1 ⊢
   simp [binOp,h1]
  simp only [execOp,ho,Sem.run_bind,h2,hb,Result.andThen_ok,Sem.run_pure]
 rw [this]
 exact ⟨rfl,.d (.v rfl)⟩
theorem zQ6 {o:Oper} {t yt:TypeId} {x y:Operand} {l:List (Nat×TypeId×Base)} {cs ds:List PV} {r:Bool} (ht:eqOf G.P t=some l) (ho:o.op=.binOp .neq t x y yt) (hx:ev E x=some (.agg cs)) (hy:ev E y=some (.agg ds)) (h:eqE l cs ds=some r)
  {σ : Nat->Value} {φ : Nat->Nat->Prop} {w:World} {a:Act} (hp:Pre' G E S a w σ φ):zB9 G S o σ φ a w (.v (.bool !r)):=by
 have hu:=zBI hp.env hx
 have hv:=zBI hp.env hy
 obtain ⟨h1,h2⟩:=zNJ ht hu hv h
 obtain ⟨us,e1,_⟩:=hu.agg_inv
 obtain ⟨vs,e2,_⟩:=hv.agg_inv
 unfold zB9
 have:(execOp a.eval o).run G.P w=.ok (.value (.bool !r)) w:=by
  have hb:(binOp .neq t (a.eval x) (a.eval y)).run G.P w=.ok (.bool !r) w:=by
   rw [e1,e2] at h1 ⊢
   simp [binOp,h1]
  simp only [execOp,ho,Sem.run_bind,h2,hb,Result.andThen_ok,Sem.run_pure]
 rw [this]
 exact ⟨rfl,.d (.v rfl)⟩
theorem po_eq {o:Oper} {rest:List Oper} {t yt:TypeId} {x y:Operand} {l:List (Nat×TypeId×Base)} {cs ds:List PV} {r:Bool} {d:Nat} (ht:eqOf G.P t=some l) (ho:o.op=.binOp .eql t x y yt) (hg:gE all E o=some true) (hx:ev E x=some (.agg cs)) (hy:ev E y=some (.agg ds)) (h:eqE l cs ds=some r)
  (hd:o.dst=some d) (hlt:Nat.blt d G.fn.ntmps=true) (k:PO G m all rest K ((d,.v (.bool r))::E) S):PO G m all (o::rest) K E S:=zEi hg (fun _ _ _ _ hp=>zVQ ht ho hx hy h hp) hd hlt k
theorem po_ne {o:Oper} {rest:List Oper} {t yt:TypeId} {x y:Operand} {l:List (Nat×TypeId×Base)} {cs ds:List PV} {r:Bool} {d:Nat} (ht:eqOf G.P t=some l) (ho:o.op=.binOp .neq t x y yt) (hg:gE all E o=some true) (hx:ev E x=some (.agg cs)) (hy:ev E y=some (.agg ds)) (h:eqE l cs ds=some r)
  (hd:o.dst=some d) (hlt:Nat.blt d G.fn.ntmps=true) (k:PO G m all rest K ((d,.v (.bool !r))::E) S):PO G m all (o::rest) K E S:=zEi hg (fun _ _ _ _ hp=>zQ6 ht ho hx hy h hp) hd hlt k
theorem pd_ne {o:Oper} {rest:List Oper} {t yt:TypeId} {x y:Operand} {l:List (Nat×TypeId×Base)} {cs ds:List PV} {r:Bool} {d:Nat} (ht:eqOf G.P t=some l) (ho:o.op=.binOp .neq t x y yt) (hg:gE all (zDn (o.looksAt all) E) o=some true) (hx:ev (zDn (o.looksAt all) E) x=some (.agg cs)) (hy:ev (zDn (o.looksAt all) E) y=some (.agg ds)) (h:eqE l cs ds=some r)
  (hd:o.dst=some d) (hlt:Nat.blt d G.fn.ntmps=true) (k:PD G m all rest K ((d,.v (.bool !r))::E) S):PD G m all (o::rest) K E S:=zG1 hg (fun _ _ _ _ hp=>zQ6 ht ho hx hy h hp) hd hlt k
end
end Go.Pw
