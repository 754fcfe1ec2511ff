/- The logic: rules by which code is walked. No program is named here. -/
import Derived.MapKept
import Derived.Lib.Builder
import Derived.Laws.Externs
import Derived.Lib.AppendStr
import Derived.Lib.UnsafeStr
import Derived.Test.YtmfbghpealgaiaaGreatDoorCo1
namespace Go.Pw
open Go
open List renaming mem_map->lE,getElem?_eq_some_iff->lF,getElem?_eq_getElem->lC,length_map->lL,all_eq_true->lR,getElem?_map->lK,mem_cons->lD,mem_of_getElem?->lU,mem_append->cA,map_cons->lT,getElem?_append_left->lN,getElem?_set_self->gB,getElem?_take->lV,getElem?_set_ne->gN,mem_cons_of_mem->lG,getElem?_append_right->cC,getElem?_drop->cD,cons_append->dE,nodup_cons->lS,countP_cons->dG,length_cons->cP,append_nil->gI,replicate->dH,mem_map_of_mem->dJ,mem_of_mem_take->gY,mem_iff_getElem->gO,map_set->dK,map_append->gG,nodup_append->dM,any_eq_true->dN,range->cW,mem_cons_self->lH,eq_of_mem_replicate->dS,mem_or_eq_of_mem_set->dT,eq_nil_of_length_eq_zero->lZ,cons->dU,getElem?_eq_none->cX,reverse_cons->dW,any_eq_false->gK,getElem?_replicate->eD,length_set->eE,length_singleton->eF,length_take->cR,getElem_mem->gC,mem_flatten->eG,mem_of_mem_drop->eH
open Nat renaming blt->lB,beq->lA,mul_le_mul_right->lO,zero_add->dA,add_zero->cH,succ_mul->lP,add_mul->cI,lt_or_ge->lY,zero_le->cG,sub_mul->dF,eq_of_beq_eq_true->lQ,le_refl->cB,mul_one->dI,blt_eq->cO,lt_trichotomy->dO,beq_refl->dR,le_of_ble_eq_true->cZ,strongRecOn->dV,eq_zero_or_pos->cT
open Option renaming map_eq_some_iff->lI,map_some->lW,some->lJ,bind_some->gA,bind_eq_some_iff->dX,elim_some->dY,getD_some->cM
open _root_.Array renaming getElem?_eq_some_iff->gZ,getElem?_eq_getElem->dC,getD_eq_getD_getElem?->cL,getElem?_setIfInBounds_ne->cN,getElem?_replicate->dP,replicate->dQ,range->gH,getElem?_push_lt->dZ,getElem?_modify->d9,getElem?_append_left->eC
open Bool renaming and_eq_true->lM,or_eq_true->dD,false_eq_true->dL
open Classical renaming byContradiction->eB
section
variable {t yt:TypeId} {r:Bool} {cs ds:List PV} {P:Program} {l:List (Nat×TypeId×Base)} {w:World} {o:Oper} {x y:Operand} {σ:Nat->Value} {D:Nat->Prop} {d:Nat} {rest:List Oper}
def zWt (P : Program) (f : Field) : Option (Nat × TypeId × Base) := if f.name != "_" then (zKH P f.type).map fun b => (f.offset, f.type, b) else none
def zfB (P:Program) (t:TypeId):Option (List (Nat×TypeId×Base)) :=
 match P.underlying t with
 | some (.struct fs)=>bif P.eqGuardType P.depth t||P.stoodInHeld t then none else zZy (zWt P) fs.toList
 | _=>none
def eq1:Base->PV->PV->Option Bool
 | .int _,.v (.int k a),.v (.int k' b)=>bif decide (k=k') then some (a==b) else none
 | .string,.v (.string ⟨⟨a⟩⟩),.v (.string ⟨⟨b⟩⟩)=>some (a==b)
 | .bool,.v (.bool a),.v (.bool b)=>some (a==b)
 | _,_,_=>none
def eqE:List (Nat×TypeId×Base)->List PV->List PV->Option Bool
 | [],_,_=>some true
 | (off,_,b)::l,cs,ds=>match zVf cs off,zVf ds off with
  | some p,some q=>(match eq1 b p q with
   | some r=>(match eqE l cs ds with
    | some s=>some (r&&s)
    | none=>none)
   | none=>none)
  | _,_=>none
section
variable {ρ : Type} {G:Ctx ρ} {m:Option ρ} {K:List (Kont ρ)} {E:Env} {S:zAC} {all:Array Oper}
theorem zaL (h:zKH P t=some .bool):P.underlying t=some .bool:=by
 unfold zKH at h
 split at h<;>simp_all
theorem zaP {a b:List UInt8}:((⟨⟨a⟩⟩:ByteArray)==⟨⟨b⟩⟩)=(a==b):=by
 have e:((⟨⟨a⟩⟩:ByteArray)==⟨⟨b⟩⟩)=((⟨a⟩:Array UInt8)==⟨b⟩):=rfl
 rw [e]
 by_cases h:a=b
 ·subst h;simp
 ·have:¬((⟨a⟩:Array UInt8)=⟨b⟩):=fun e=>h (by injection e)
  rw [beq_eq_false_iff_ne.2 this,beq_eq_false_iff_ne.2 h]
theorem zg1 {b:Base} {p q:PV} {u v:Value} (B:zKH P t=some b) (f:R σ w D p u) (s:R σ w D q v) (h:eq1 b p q=some r):(Op.equalIn (d+1) t u v).run P w=.ok r w:=by
 unfold eq1 at h
 split at h<;>try simp at h
 ·rename_i k0 k a F H
  obtain ⟨rfl,_⟩:=f.flat_inv
  obtain ⟨rfl,_⟩:=s.flat_inv
  by_cases C:k=F
  ·subst C
   simp at h;subst h
   unfold Op.equalIn
   simp [run_underlying (zOX B)]
  ·simp [C] at h
 ·obtain ⟨rfl,_⟩:=f.flat_inv
  obtain ⟨rfl,_⟩:=s.flat_inv
  subst h
  unfold Op.equalIn
  simp [run_underlying (zH0 B),zaP]
 ·obtain ⟨rfl,_⟩:=f.flat_inv
  obtain ⟨rfl,_⟩:=s.flat_inv
  subst h
  unfold Op.equalIn
  simp [run_underlying (zaL B)]
theorem zXk {b:Base} (h:zKH P t=some b):(isAgg t).run P w=.ok false w:=by
 unfold zKH at h
 split at h<;>simp at h<;>rename_i f<;>simp [isAgg,run_underlying f]
theorem zcE {P:Program} {σ : Nat->Value} {D:Nat->Prop} {w:World} {cs ds:List PV} {us h:List Value} (L:cs.length=us.length) (M:ds.length=h.length) (Q:∀(i:Nat) (c:PV) (x:Value),cs[i]? = some c->us[i]? = some x->R σ w D c x)
  (W:∀(i:Nat) (c:PV) (x:Value),ds[i]? = some c->h[i]? = some x->R σ w D c x) {d:Nat}:∀{k:List Field} {l:List (Nat×TypeId×Base)} {r:Bool},zZy (zWt P) k=some l->eqE l cs ds=some r ->
  (forIn k ((none,()):Option Bool×Unit) fun f _=>(do
   if f.name ≠ "_" then
    if !(<- Op.equalIn (d+1) f.type (<- part f.type ⟨us⟩ f.offset) (<- part f.type ⟨h⟩ f.offset)) then pure (ForInStep.done (some false,())) else pure (ForInStep.yield (none,()))
   else pure (ForInStep.yield (none,())):Sem (ForInStep (Option Bool×Unit)))).run P w=.ok (if r then none else some false,()) w
 | [],l,r,hl,hr=>by
  simp [zZy] at hl;subst hl
  simp [eqE] at hr;subst hr
  simp
 | f::k,l,r,hl,hr=>by
  simp only [zZy] at hl
  split at hl<;>try simp at hl
  rename_i y hy
  split at hl<;>simp at hl
  rename_i l' C
  subst hl
  unfold zWt at hy
  split at hy
  ·rename_i hn
   obtain ⟨b,B,rfl⟩:=lI.1 hy
   simp only [eqE] at hr
   split at hr<;>try simp at hr
   rename_i p q H I
   split at hr<;>try simp at hr
   rename_i r1 J
   split at hr<;>simp at hr
   rename_i s hs
   subst hr
   rw [zKX] at H I
   have X:f.offset<us.length:=by rw [<- L];exact (lF.1 H).1
   have l2:f.offset<h.length:=by rw [<- M];exact (lF.1 I).1
   have F : f.name ≠ "_" := by simpa using hn
   have p1:(part f.type ⟨us⟩ f.offset).run P w=.ok us[f.offset] w:=by simp [part,zXk B,lC X]
   have p2:(part f.type ⟨h⟩ f.offset).run P w=.ok h[f.offset] w:=by simp [part,zXk B,lC l2]
   have e1:=zg1 (d:=d) B (Q _ _ _ H (lC X)) (W _ _ _ I (lC l2)) J
   have ih:=zcE L M Q W (d:=d) C hs
   simp only [List.forIn_cons,Sem.run_bind,iP F,p1,p2,e1,Result.andThen_ok]
   cases r1
   ·simp
   ·simp only [Bool.not_true,dL,if_false,Sem.run_pure,Result.andThen_ok,Bool.true_and]
    exact ih
  ·simp at hy
theorem zVx {u v:Value} (b:zfB P t=some l) (M:R σ w D (.agg cs) u) (Q:R σ w D (.agg ds) v) (h:eqE l cs ds=some r) :
  (Op.equal t u v).run P w=.ok r w/\∀B x y,(eqGuard B t x y u v).run P w=.ok () w:=by
 obtain ⟨us,rfl,H,I⟩:=M.agg_inv
 obtain ⟨W,rfl,J,L⟩:=Q.agg_inv
 unfold zfB at b
 split at b<;>try simp at b
 rename_i C s
 cases f:(P.eqGuardType P.depth t||P.stoodInHeld t)<;>simp only [f,cond_true,cond_false] at b
 ·rw [Bool.or_eq_false_iff] at f
  refine ⟨?_,fun B x y=>?_⟩
  ·show (Op.equalIn (9998+1+1) t _ _).run P w=_
   have:=zcE (P:=P) (d:=9998) H J I L b h
   unfold Op.equalIn
   have k:C=⟨C.toList⟩:=rfl
   simp only [Sem.run_bind,run_underlying s,Result.andThen_ok,run_program,f.2,dL,if_false]
   rw [k,List.forIn_toArray,this]
   cases r<;>simp
  ·have F:=f.1
   cases B<;>simp [eqGuard,run_program,F]
 ·simp at b
theorem zgA (J:zfB G.P t=some l) (I:o.op=.binOp .eql t x y yt) (hx:ev E x=some (.agg cs)) (hy:ev E y=some (.agg ds)) (h:eqE l cs ds=some r)
  {σ : Nat->Value} {φ : Nat->Nat->Prop} {w:World} {a:Act} (f:Pre' G E S a w σ φ):zCG G S o σ φ a w (.v (.bool r)):=by
 have k:=zAm f.env hx
 have s:=zAm f.env hy
 obtain ⟨b,F⟩:=zVx J k s h
 obtain ⟨us,B,_⟩:=k.agg_inv
 obtain ⟨L,C,_⟩:=s.agg_inv
 unfold zCG
 have:(execOp a.eval o).run G.P w=.ok (.value (.bool r)) w:=by
  have H:(binOp .eql t (a.eval x) (a.eval y)).run G.P w=.ok (.bool r) w:=by
   rw [B,C] at b ⊢
   simp [binOp,b]
  simp only [execOp,I,Sem.run_bind,F,H,Result.andThen_ok,Sem.run_pure]
 rw [this]
 exact ⟨rfl,.d (.v rfl)⟩
theorem zgC (J:zfB G.P t=some l) (I:o.op=.binOp .neq t x y yt) (hx:ev E x=some (.agg cs)) (hy:ev E y=some (.agg ds)) (h:eqE l cs ds=some r)
  {σ : Nat->Value} {φ : Nat->Nat->Prop} {w:World} {a:Act} (f:Pre' G E S a w σ φ):zCG G S o σ φ a w (.v (.bool !r)):=by
 have k:=zAm f.env hx
 have s:=zAm f.env hy
 obtain ⟨b,F⟩:=zVx J k s h
 obtain ⟨us,B,_⟩:=k.agg_inv
 obtain ⟨L,C,_⟩:=s.agg_inv
 unfold zCG
 have:(execOp a.eval o).run G.P w=.ok (.value (.bool !r)) w:=by
  have H:(binOp .neq t (a.eval x) (a.eval y)).run G.P w=.ok (.bool !r) w:=by
   rw [B,C] at b ⊢
   simp [binOp,b]
  simp only [execOp,I,Sem.run_bind,F,H,Result.andThen_ok,Sem.run_pure]
 rw [this]
 exact ⟨rfl,.d (.v rfl)⟩
theorem po_eq (F:zfB G.P t=some l) (B:o.op=.binOp .eql t x y yt) (s:gE all E o=some true) (hx:ev E x=some (.agg cs)) (hy:ev E y=some (.agg ds)) (h:eqE l cs ds=some r)
  (f:o.dst=some d) (b:lB d G.fn.ntmps=true) (k:PO G m all rest K ((d,.v (.bool r))::E) S):PO G m all (o::rest) K E S:=zDu s (fun _ _ _ _ C=>zgA F B hx hy h C) f b k
theorem po_ne (F:zfB G.P t=some l) (B:o.op=.binOp .neq t x y yt) (s:gE all E o=some true) (hx:ev E x=some (.agg cs)) (hy:ev E y=some (.agg ds)) (h:eqE l cs ds=some r)
  (f:o.dst=some d) (b:lB d G.fn.ntmps=true) (k:PO G m all rest K ((d,.v (.bool !r))::E) S):PO G m all (o::rest) K E S:=zDu s (fun _ _ _ _ C=>zgC F B hx hy h C) f b k
end
end
section
section
variable {ρ : Type} {G:Ctx ρ} {m:Option ρ} {K:List (Kont ρ)} {E:Env} {S:zAC} {all:Array Oper}
end
theorem zf7 {L:World->Prop} {P:Program} {f:FuncId} {ps:List PV} {us:List Value} {u:Value} (C:ps=us.map PV.v) (M:us.all zSy=true) (h:∀w,Calls P f ⟨us⟩ w fun e w'=>e=.returned u/\w'=w) (hr:zSy u=true):DC L P f ps (.v u):=by
 subst C
 intro X σ φ w F _ hi I
 have:F=us:=by
  apply List.ext_getElem?
  intro i
  obtain ⟨l1,l2⟩:=I
  rw [lL] at l1
  rcases lY i us.length with s | B
  ·have H:i<F.length:=by omega
   have:=l2 i (.v us[i]) F[i] (by rw [lK,lC s];rfl) (lC H)
   rw [lC s,lC H,this.flat_inv.1]
  ·rw [cX (by omega),cX B]
 subst this
 refine (h w).mono ?_
 rintro e w' ⟨rfl,rfl⟩
 exact ⟨_,_,σ,φ,u,rfl,⟨rfl,rfl⟩,hi,.d (.v hr),Fr.refl _ _,fun n W=>(by cases W),fun b J=>(by obtain ⟨n,k,Q,_⟩:=J;cases Q)⟩
end
section
variable {key:Nat} {ks:List Nat} {α:Type}
section
variable {ρ : Type} {G:Ctx ρ} {E:Env} {S:zAC} {all:Array Oper}
theorem zZn {Sc Sr S2:zAC} {N0:List Nat} {σ : Nat->Value} {φ : Nat->Nat->Prop} {w w':World} {a:Act} (M:Pre' G E S a w σ φ) (hSub:zWU Sc S) {X':Nat->Prop} (hX:∀b,X' b↔G.X b\/∃n k,(n,k)∈S/\n∉Sc.map (·.1) /\ φ n b)
  {σ':Nat->Value} {φ':Nat->Nat->Prop} (hi2:Inv X' σ' φ' w' Sr) (hfr:Fr w (zCQ φ Sc) w') (hag:∀n∈N0,σ' n = σ n) (hnew:∀b,zCQ φ' Sr b->b<w.heap.size->zCQ φ Sc b) (hSr:∀n k,(n,k)∈Sr->n∈N0++ks)
  (hSrc:∀(n:Nat) {ty:Nat} (cells:List PV),(n,Blk.box ty cells)∈Sr->∀(i:Nat) (c:PV),cells[i]? = some c->∀m∈names c,m∈N0++ks) (hS2:∀n k,(n,k)∈S2->n∉ks/\n∉Sc.map (·.1)/\∃k0,(n,k0)∈S/\ze0 ks k0 k) (hnd:((Sr++S2).map (·.1)).Nodup) (hfree:∀n∈ks,n∉G.N0) :
  ∃Q B,(∀n∈N0++ks,Q n = σ' n)/\(∀n,n∉ks -> Q n = σ n)/\(∀b,Dof G.X φ w S b->Dof G.X B w' (Sr++S2) b/\w'.heap[b]? = w.heap[b]?)/\(∀b,Dof X' φ' w' Sr b->Dof G.X B w' (Sr++S2) b) /\
   Inv G.X Q B w' (Sr++S2)/\Fr G.w0 G.X0 w'/\(∀n∈G.N0,Q n=G.σ0 n)/\∀b,zCQ B (Sr++S2) b->b<G.w0.heap.size->G.X0 b:=by
 have hin:∀{n:Nat},n∈N0++ks↔(N0++ks).any (lA n)=true:=zBE.symm
 let Q:Nat->Value:=fun m=>if (N0++ks).any (lA m) then σ' m else σ m
 let B:Nat->Nat->Prop:=fun m=>if (Sr.map (·.1)).any (lA m) then φ' m else φ m
 have hσi:∀n∈N0++ks,Q n = σ' n:=fun n L=>iP (hin.1 L)
 have hσk:∀n,n∉ks -> Q n = σ n:=fun n L=>by
  by_cases h:n∈N0++ks
  ·rw [hσi n h]
   exact hag n ((cA.1 h).resolve_right L)
  ·exact iN fun h'=>h (hin.2 h')
 have F:∀n k,(n,k)∈Sr -> B n = φ' n:=fun n k f=>iP (zBE.2 (lE.2 ⟨_,f,rfl⟩))
 have hnd':=hnd
 rw [gG] at hnd'
 have hd12:=(dM.1 hnd').2.2
 have H:∀n k,(n,k)∈S2 -> B n = φ n:=fun n k f=>iN fun h=>hd12 n (zBE.1 h) n (lE.2 ⟨_,f,rfl⟩) rfl
 have J:∀b,zCQ B (Sr++S2) b->zCQ φ' Sr b\/∃n k0,(n,k0)∈S/\n∉Sc.map (·.1) /\ φ n b:=fun b ⟨n,k,f,s⟩=>by
  rcases cA.1 f with f | f
  ·rw [F n k f] at s;exact .inl ⟨n,k,f,s⟩
  ·rw [H n k f] at s
   obtain ⟨_,W,k0,I,_⟩:=hS2 n k f
   exact .inr ⟨n,k0,I,W,s⟩
 have hold:∀b,b<w.heap.size->¬zCQ φ Sc b->w'.heap[b]? = w.heap[b]? := hfr.block
 have hsz:=hfr.size
 have hD3:∀b,Dof G.X φ w S b->Dof G.X B w' (Sr++S2) b/\w'.heap[b]? = w.heap[b]? := fun b ⟨a1,a2,a3⟩=>by
  have hnf:¬zCQ φ Sc b:=fun ⟨n,k,f,s⟩=>a3 n k (hSub.1 _ f) s
  refine ⟨⟨by omega,a2,fun n k f s=>?_⟩,hold b a1 hnf⟩
  rcases J b ⟨n,k,f,s⟩ with g | ⟨n',k0,g1,_,I⟩
  ·exact hnf (hnew b g a1)
  ·exact a3 n' k0 g1 I
 have hDr:∀b,Dof X' φ' w' Sr b->Dof G.X B w' (Sr++S2) b:=fun b ⟨a1,a2,a3⟩=>⟨a1,fun h=>a2 ((hX b).2 (.inl h)),fun n k f s=>by
  rcases J b ⟨n,k,f,s⟩ with ⟨n',k',g1,W⟩ | ⟨n',k0,g1,W,I⟩
  ·exact a3 n' k' g1 W
  ·exact a2 ((hX b).2 (.inr ⟨n',k0,g1,W,I⟩))⟩
 refine ⟨Q,B,hσi,hσk,hD3,hDr,?_,?_,fun n L=>?_,fun b s hlt=>?_⟩
 ·refine ⟨hnd,fun b hb=>by have:=M.inv.xlt b hb;omega,fun b s=>?_,fun n m k l L f hne b s C=>?_,fun n k f=>?_⟩
  ·rcases J b s with g | ⟨n,k0,g1,W,I⟩
   ·obtain ⟨g1,W⟩:=hi2.lt b g;exact ⟨g1,fun h=>W ((hX b).2 (.inl h))⟩
   ·obtain ⟨g4,g5⟩:=M.inv.lt b ⟨n,k0,g1,I⟩;exact ⟨by omega,g5⟩
  ·rcases cA.1 L with L | L<;>rcases cA.1 f with f | f
   ·rw [F _ _ L] at s;rw [F _ _ f] at C;exact hi2.disj n m k l L f hne b s C
   ·rw [F _ _ L] at s;rw [H _ _ f] at C
    obtain ⟨_,W,k0,I,_⟩:=hS2 m l f
    exact (hi2.lt b ⟨n,k,L,s⟩).2 ((hX b).2 (.inr ⟨m,k0,I,W,C⟩))
   ·rw [H _ _ L] at s;rw [F _ _ f] at C
    obtain ⟨_,W,k0,I,_⟩:=hS2 n k L
    exact (hi2.lt b ⟨m,l,f,C⟩).2 ((hX b).2 (.inr ⟨n,k0,I,W,s⟩))
   ·rw [H _ _ L] at s;rw [H _ _ f] at C
    obtain ⟨_,_,k0,I,_⟩:=hS2 n k L
    obtain ⟨_,_,l0,g4,_⟩:=hS2 m l f
    exact M.inv.disj n m k0 l0 I g4 hne b s C
  ·rcases cA.1 f with f | f
   ·rw [F n k f,hσi n (hSr n k f)]
    refine zCT.next (fun b hb=>⟨hDr b hb,rfl⟩) (fun _ _=>rfl) (hi2.ok n k f) fun _ cells e i c hc' m hmn=>hσi m ?_
    subst e
    exact hSrc n cells f i c hc' m hmn
   ·obtain ⟨g1,W,k0,I,g4⟩:=hS2 n k f
    rw [H n k f,hσk n g1]
    refine zCT.went hD3 (fun b s=>hold b (M.inv.lt b ⟨n,k0,I,s⟩).1 fun ⟨n',k',hm',C⟩=>?_) (M.inv.ok n k0 I) g4 hσk
    have hne:n≠n':=fun e=>W (by rw [e];exact lE.2 ⟨_,hm',rfl⟩)
    exact M.inv.disj n n' k0 k' I (hSub.1 _ hm') hne b s C
 ·refine ⟨hfr.os.trans M.fr.os,hfr.tape.trans M.fr.tape,hfr.output.trans M.fr.output,by have:=M.fr.size;omega,fun b hb' hx=>?_⟩
  have:=M.fr.size
  rw [hold b (by omega) fun ⟨n,k,f,s⟩=>hx (M.new b ⟨n,k,hSub.1 _ f,s⟩ hb')]
  exact M.fr.block b hb' hx
 ·rw [<- M.agree n L]
  exact hσk n fun hk=>hfree n hk L
 ·have hsz0:=M.fr.size
  rcases J b s with g | ⟨n,k0,g1,W,I⟩
  ·obtain ⟨n,k,f,s⟩:=hnew b g (by omega)
   exact M.new b ⟨n,k,hSub.1 _ f,s⟩ hlt
  ·exact M.new b ⟨n,k0,g1,I⟩ hlt
theorem zdz {o:Oper} {J : ρ -> Act->World->Prop} {M:Option ρ} {y : ρ} (h:PO G M all [o] [.iter J] E S) (hy:M=some y) {a:Act} {w:World} (L:Pre G E S a w) :
  if Region.wanted o (yielded all a.tmps) then ∀(k:Act->World->Prop) (Q:Exit->Act->World->Prop),(∀B w',J y B w'->k B w')->o.wp G.P a w k Q else J y (a.put o.dst undef) w:=by
 have b:=h y hy a w L
 unfold wpList at b
 by_cases C:Region.wanted o (yielded all a.tmps)=true
 ·rw [iP C] at b ⊢
  intro k Q H
  rcases b with b | ⟨_,B,w',b⟩
  ·have f:=Oper.wp_mono (K':=k) (fun a w I=>H a w I) b
   unfold Oper.wp Oper.upon at f ⊢
   split at f<;>try exact f
   ·refine f.mono fun e W s=>?_
    split at s<;>try exact s
    ·exact absurd s zGe
    ·obtain ⟨X,w2,F⟩:=s;exact absurd F zDW
   ·exact absurd f zGe
  ·exact absurd b zDW
 ·rw [iN C] at b ⊢
  exact b
inductive Info where
 | pv (p:PV)
 | blk (b:Blk)
 | gone
abbrev Vw:=List (Nat×Info)
def zWT (G:Ctx ρ) (V:Vw) (a:Act) (w:World):Prop :=
 ∃σ φ S E,(∀n b,lku V (2*n+1)=some (.blk b)↔lkS S n=some b)/\(∀t p,lku V (2*t)=some (.pv p)↔lk E t=some p)/\Pre' G E S a w σ φ
theorem zWT.congr {V V':Vw} (h:∀key,lku V' key=lku V key) {a:Act} {w:World}:zWT G V a w->zWT G V' a w:=by
 rintro ⟨σ,φ,S,E,f,k,s⟩
 exact ⟨σ,φ,S,E,fun n b=>by rw [h];exact f n b,fun t p=>by rw [h];exact k t p,s⟩
def zRr:Info->List Nat
 | .pv p=>names p
 | .blk (.box _ cells)=>names.nameL cells
 | _=>[]
def zVd (ks:List Nat) (i:Info):Bool:=(zRr i).any fun m=>ks.any (lA m)
def zJk (W:Vw):List (Nat×List Nat):=W.map fun x=>(x.1,zRr x.2)
structure Summ where
 reads:List Nat
 writes:List Nat
 ks:List Nat
 ment:List (Nat×List Nat)
def OpV (G:Ctx ρ) (all:Array Oper) (o:Oper) (f:Summ) (W V:Vw):Prop :=
 ∀b:Vw,(∀key∈f.reads,lku b key=lku V key)->(∀key i,lku b key=some i->zVd f.ks i=true->key∈f.writes)->∀a w,zWT G b a w ->
  if Region.wanted o (yielded all a.tmps) then ∀(h:Act->World->Prop) (Q:Exit->Act->World->Prop),(∀k w',zWT G (W++b) k w'->h k w')->o.wp G.P a w h Q else zWT G (W++b) (a.put o.dst undef) w
def disj (l m:List Nat):Bool:=l.all fun x => !(m.any (lA x))
theorem zRU {l m:List Nat} (h:disj l m=true) {x:Nat} (b:x∈l) (f:x∈m):False:=by
 have:=lR.1 h x b
 rw [zBE.2 f] at this;cases this
def zTw (ks:List Nat) (ment:List (Nat×List Nat)) (wr:List Nat):Bool:=ment.all fun x=>disj x.2 ks||wr.any (lA x.1)
def zbh (ks:List Nat) (ment:List (Nat×List Nat)):Bool:=ment.all fun x=>disj x.2 ks
theorem zYE {i:Info} (h:zVd ks i=true):∃m,m∈zRr i/\m∈ks:=by
 obtain ⟨m,b,f⟩:=dN.1 h
 exact ⟨m,b,zBE.1 f⟩
theorem zXp {wr:List Nat} {W:Vw} (h:zTw ks (zJk W) wr=true) {key:Nat} {i:Info} (k:(key,i)∈W) (hi:zVd ks i=true):key∈wr:=by
 have:=lR.1 h (key,zRr i) (lE.2 ⟨_,k,rfl⟩)
 obtain ⟨m,b,f⟩:=zYE hi
 simp only [dD] at this
 rcases this with h | h
 ·exact (zRU h b f).elim
 ·exact zBE.1 h
theorem zZY {W:Vw} (h:zbh ks (zJk W)=true) {key:Nat} {i:Info} (k:(key,i)∈W) (hi:zVd ks i=true):False:=by
 have:=lR.1 h (key,zRr i) (lE.2 ⟨_,k,rfl⟩)
 obtain ⟨m,b,f⟩:=zYE hi
 exact zRU this b f
def zUQ (b s:Summ):Bool:=disj s.writes b.reads&&disj s.writes b.writes&&disj b.writes s.reads&&zbh s.ks b.ment
def zUJ (m:Nat) (b:Summ):Nat->List Summ->Bool
 | _,[]=>true
 | i,s::l=>(zUQ b s||m.testBit i)&&zTw b.ks s.ment b.writes&&zUJ m b (i+1) l
theorem zYJ {m:Nat} {b:Summ}:∀{l:List Summ} {k i:Nat} {s:Summ},zUJ m b k l=true->l[i]? = some s->(zUQ b s=true\/m.testBit (k+i)=true)/\zTw b.ks s.ment b.writes=true
 | [],_,_,_,_,h=>by simp at h
 | x::l,k,i,s,h,hi=>by
  simp only [zUJ,lM,dD] at h
  cases i with
  | zero=>simp at hi;subst hi;exact ⟨h.1.1,h.1.2⟩
  | succ i=>have:=zYJ h.2 (i:=i) (by simpa using hi);rw [show k+(i+1)=k+1+i by omega];exact this
def zRw (ms:List Nat) (ment0:List (Nat×List Nat)) (j:Nat) (b:Summ) (acc:List Summ):Bool:=zUJ (ms.getD j 0) b 0 acc&&zTw b.ks ment0 b.writes
def Lx (G:Ctx ρ) (all:Array Oper) (ms:List Nat) (ment0:List (Nat×List Nat)):List Oper->Nat->List Summ->Vw->(Vw->Prop)->Prop
 | [],_,_,V,Kf=>Kf V
 | o::rest,j,acc,V,Kf=>∃b W,zRw ms ment0 j b acc=true/\W.map (·.1)=b.writes/\zJk W=b.ment/\OpV G all o b W V/\Lx G all ms ment0 rest (j+1) (acc++[b]) (W++V) Kf
theorem zH1 {α : Type} {V:List (Nat × α)} {key:Nat}:∀{W:List (Nat × α)},lku (W++V) key=match lku W key with
  | some i=>some i
  | none=>lku V key
 | []=>rfl
 | (k,x)::W=>by
  simp only [dE,lku]
  cases lA k key
  ·exact zH1
  ·rfl
theorem zOs {α : Type} {key:Nat}:∀{W:List (Nat × α)},key∉W.map (·.1)->lku W key=none
 | [],_=>rfl
 | (k,x)::W,h=>by
  simp only [lT,lD,not_or] at h
  simp only [lku,zBa (Ne.symm h.1),cond_false]
  exact zOs h.2
theorem zQn {α : Type} {key:Nat}:∀{W:List (Nat × α)},key∈W.map (·.1)->∃i,lku W key=some i
 | [],h=>by simp at h
 | (k,x)::W,h=>by
  simp only [lku]
  by_cases e:k=key
  ·subst e;exact ⟨x,by simp⟩
  ·simp only [zBa e,cond_false]
   simp only [lT,lD] at h
   exact zQn (h.resolve_left (Ne.symm e))
def zO1:List (Summ×Vw)->(Nat->Bool)->Nat->Vw->Vw
 | [],_,_,V=>V
 | x::l,f,k,V=>zO1 l f (k+1) (bif f k then x.2++V else V)
theorem zRo {key:Nat}:∀{l:List (Summ×Vw)} {f g:Nat->Bool} {k:Nat} {V V':Vw},(∀(j:Nat) (x:Summ×Vw),l[j]? = some x->key∈x.2.map (·.1)->f (k+j)=g (k+j))->lku V key=lku V' key->lku (zO1 l f k V) key=lku (zO1 l g k V') key
 | [],_,_,_,_,_,_,h=>h
 | x::l,f,g,k,V,V',hfg,h=>by
  simp only [zO1]
  refine zRo (l:=l) (k:=k+1) (fun j y B hy=>by have:=hfg (j+1) y (by simpa using B) hy;rw [show k+1+j=k+(j+1) by omega];exact this) ?_
  by_cases e:key∈x.2.map (·.1)
  ·have:=hfg 0 x rfl e
   simp only [cH] at this
   rw [this]
   cases g k
   ·exact h
   ·obtain ⟨i,hi⟩:=zQn e
    simp [zH1,hi]
  ·have s:∀(b:Bool) (V:Vw),lku (bif b then x.2++V else V) key=lku V key:=by
    intro b V
    cases b
    ·rfl
    ·simp [zH1,zOs e]
   rw [s,s,h]
theorem zNB:∀{l:List (Summ×Vw)} {k:Nat} {V:Vw},zO1 l (fun _=>false) k V=V
 | [],_,_=>rfl
 | x::l,k,V=>by simp only [zO1,cond_false];exact zNB
theorem zV1 {key:Nat} {y:Summ×Vw}:∀{l:List (Summ×Vw)} {f:Nat->Bool} {k i:Nat} {V:Vw},l[i]? = some y->key∈y.2.map (·.1)->f (k+i)=true->(∀(j:Nat) (x:Summ×Vw),i<j->l[j]? = some x->key∈x.2.map (·.1)->f (k+j)=false)->lku (zO1 l f k V) key=lku y.2 key
 | [],_,_,_,_,h,_,_,_=>by simp at h
 | x::l,f,k,i,V,h,hk,hf,hl=>by
  cases i with
  | zero =>
   simp at h;subst h
   simp only [cH] at hf
   simp only [zO1,hf,cond_true]
   have:=zRo (key:=key) (l:=l) (f:=f) (g:=fun _=>false) (k:=k+1) (V:=x.2++V) (V':=x.2++V) (fun j z b hz=>by
    have:=hl (j+1) z (by omega) (by simpa using b) hz;rw [show k+1+j=k+(j+1) by omega];exact this) rfl
   rw [this,zNB,zH1]
   obtain ⟨i,hi⟩:=zQn hk
   rw [hi]
  | succ i =>
   simp only [zO1]
   exact zV1 (l:=l) (k:=k+1) (i:=i) (by simpa using h) hk (by rw [show k+1+i=k+(i+1) by omega];exact hf) fun j z s b hz=>by
    have:=hl (j+1) z (by omega) (by simpa using b) hz;rw [show k+1+j=k+(j+1) by omega];exact this
theorem zV0 {key:Nat} {i:Info}:∀{l:List (Summ×Vw)} {f:Nat->Bool} {k:Nat} {V:Vw},lku (zO1 l f k V) key=some i->(∃(j:Nat) (x:Summ×Vw),l[j]? = some x/\f (k+j)=true/\(key,i)∈x.2)\/lku V key=some i
 | [],_,_,_,h=>.inr h
 | x::l,f,k,V,h=>by
  simp only [zO1] at h
  rcases zV0 h with ⟨j,y,s,B,C⟩ | h
  ·exact .inl ⟨j+1,y,by simpa using s,by rw [show k+(j+1)=k+1+j by omega];exact B,C⟩
  ·cases b:f k
   ·rw [b] at h;exact .inr h
   ·rw [b,cond_true,zH1] at h
    cases hx:lku x.2 key with
    | none=>rw [hx] at h;exact .inr h
    | some F =>
     rw [hx] at h;cases h
     exact .inl ⟨0,x,rfl,b,zAc hx⟩
def zLk:Nat->List Oper->Bool
 | _,[]=>true
 | j,y::l=>y.after.toList.all (fun e => !Region.binds .any e||lB e.on j)&&zLk (j+1) l
theorem zPR:∀{l:List Oper} {k j:Nat} {y:Oper},zLk k l=true->l[j]? = some y->∀e∈y.after,Region.binds .any e=true->e.on<k+j
 | [],_,_,_,_,h=>by simp at h
 | z::l,k,j,y,h,hj=>by
  simp only [zLk,lM] at h
  intro e f b
  cases j with
  | zero =>
   simp at hj;subst hj
   have:=lR.1 h.1 e (by simpa using f)
   rw [b] at this
   simpa [cO] using this
  | succ j=>have:=zPR h.2 (j:=j) (by simpa using hj) e f b;omega
theorem zaD {Q:Exit->Act->World->Prop} {V:Vw} (hok:zLk 0 all.toList=true) (B:List (Summ×Vw)) (hlen:B.length=all.size)
  (hd:∀(i:Nat) (o:Oper),all[i]? = some o->∃sm W,B[i]? = some (sm,W)/\W.map (·.1)=sm.writes/\zJk W=sm.ment/\zRw (zNX all.toList []) (zJk V) i sm ((B.take i).map (·.1))=true/\OpV G all o sm W (zO1 B (fun j=>decide (j<i)) 0 V))
  (hQ:∀a w,zWT G (zO1 B (fun _=>true) 0 V) a w->Q .normal a w):∀(I:Nat) (b:Array Bool) (a:Act) (w:World),b.size=all.size ->
   (∀(j:Nat) (y:Oper),all[j]? = some y->b.getD j false=true->∀e∈y.after,Region.binds .any e=true->b.getD e.on false=true) ->
   (cW all.size).countP (fun j => !b.getD j false)=I->zWT G (zO1 B (fun j=>b.getD j false) 0 V) a w->wpAny G.P .any all Q I b a w:=by
 have inl:∀{i:Nat} {x:Summ×Vw},B[i]? = some x->i<all.size:=fun h=>by rw [<- hlen];exact (lF.1 h).1
 have J:∀{j:Nat} {y:Oper},all[j]? = some y->∀e∈y.after,Region.binds .any e=true->e.on<j:=fun {j y} F=>by
  have:=zPR (k:=0) (j:=j) (y:=y) hok (by simpa using F)
  simpa using this
 intro I
 have done_:∀(b:Array Bool) (a:Act) (w:World),(∀j,j<all.size->b.getD j false=true)->zWT G (zO1 B (fun j=>b.getD j false) 0 V) a w->Q .normal a w:=fun b a w hall X =>
  hQ a w (X.congr fun key=>zRo (fun j x F _=>by simp only [dA];exact (hall j (inl F)).symm) rfl)
 have allDone:∀(b:Array Bool),b.size=all.size->Region.ready .any all b=[]->∀j,j<all.size->b.getD j false=true:=by
  intro b hsz hr j
  induction j using dV with
  | _ j ih =>
   intro F
   cases hl:b.getD j false with
   | true=>rfl
   | false =>
    have:j∈Region.ready .any all b:=by
     rw [mem_ready]
     refine ⟨?_,_,dC F,fun e M L=>?_⟩
     ·simp only [cL] at hl ⊢
      have:j<b.size:=by omega
      simpa [this] using hl
     ·have hlt:=J (dC F) e M L
      exact ih e.on hlt (by omega)
    rw [hr] at this;cases this
 induction I with
 | zero =>
  intro b a w hsz hcl hc X
  have hall:∀j,j<all.size->b.getD j false=true:=fun j F=>by
   rw [List.countP_eq_zero] at hc
   simpa using hc j (by simpa using F)
  refine ⟨?_,done_ b a w hall X⟩
  refine List.eq_nil_iff_forall_not_mem.2 fun j F=>?_
  obtain ⟨h1,o,h2,_⟩:=mem_ready.1 F
  have hlt:=(gZ.1 h2).1
  have:=hall j hlt
  simp only [cL] at this h1
  have hj':j<b.size:=by omega
  simp [hj'] at this h1
  rw [this] at h1;cases h1
 | succ I ih =>
  intro b a w hsz hcl hc X
  refine ⟨fun hr=>done_ b a w (allDone b hsz hr) X,fun i hi=>?_⟩
  obtain ⟨hun,o,ho,haft⟩:=mem_ready.1 hi
  have hilt:=(gZ.1 ho).1
  have hun':b.getD i false=false:=by
   have hi':i<b.size:=by omega
   simp only [cL] at hun ⊢
   simpa [hi'] using hun
  obtain ⟨sm,W,M,hw1,hw2,hst,hsem⟩:=hd i o ho
  have came:∀(j:Nat) (y:Oper),all[j]? = some y->(∀e∈y.after,Region.binds .any e=true->b.getD e.on false=true)->∀k,((zNX all.toList []).getD j 0).testBit k=true->b.getD k false=true:=by
   intro j
   induction j using dV with
   | _ j ihj =>
    intro y hy hya k hk
    obtain ⟨e,M,L,h⟩:=zdt (acc:=[]) (l:=all.toList) (j:=j) (o:=y) (by simpa using hy) (fun k x hx e M L=>by
     have:=J (j:=k) (y:=x) (by simpa using hx) e M L
     simpa using this) (by simpa using hk)
    have h1:=hya e M L
    rcases h with rfl | h
    ·exact h1
    ·have hlt:=J hy e M L
     have hjl:=(gZ.1 hy).1
     have hy2:all[e.on]? = some (all[e.on]'(by omega)):=dC (by omega)
     exact ihj e.on hlt _ hy2 (fun e' he' hb'=>hcl _ _ hy2 h1 e' he' hb') k h
  -- what the step of a later one says of an earlier one
  have two:∀(j1 j2:Nat) (x y:Summ×Vw),B[j1]? = some x->B[j2]? = some y->j1<j2->(zUQ y.1 x.1=true\/((zNX all.toList []).getD j2 0).testBit j1=true)/\zTw y.1.ks x.1.ment y.1.writes=true:=by
   intro j1 j2 x y hx hy hlt
   have hl2:=inl hy
   obtain ⟨sm2,W2,e2,_,_,s2,_⟩:=hd j2 _ (dC hl2)
   rw [hy] at e2;cases e2
   simp only [zRw,lM] at s2
   have:=zYJ (i:=j1) (s:=x.1) s2.1 (by rw [lK,lV,iP hlt,hx];rfl)
   simpa using this
  have cross0:zTw sm.ks (zJk V) sm.writes=true:=by
   simp only [zRw,lM] at hst;exact hst.2
  have entw:∀{j:Nat} {x:Summ×Vw},B[j]? = some x->x.2.map (·.1)=x.1.writes/\zJk x.2=x.1.ment:=fun {j x} hx=>by
   obtain ⟨sm2,W2,e2,g1,g2,_⟩:=hd j _ (dC (inl hx))
   rw [hx] at e2;cases e2;exact ⟨g1,g2⟩
  -- one that is b has all J of it by the zNX
  have C:∀{j:Nat},j<all.size->b.getD j false=true->((zNX all.toList []).getD j 0).testBit i=true->False:=fun {j} F hl L=>by
   have hy:all[j]? = some (all[j]'F):=dC F
   have:=came j _ hy (fun e M hb'=>hcl j _ hy hl e M hb') i L
   rw [hun'] at this;cases this
  have sees:∀key∈sm.reads,lku (zO1 B (fun j=>b.getD j false) 0 V) key=lku (zO1 B (fun j=>decide (j<i)) 0 V) key:=by
   intro key hk
   refine zRo (fun j x F hx=>?_) rfl
   simp only [dA]
   rw [(entw F).1] at hx
   rcases dO j i with h | h | h
   ·rcases (two j i x _ F M h).1 with X | L
    ·simp only [zUQ,lM] at X
     exact (zRU X.1.1.1 hx hk).elim
    ·rw [came i o ho haft j L];simpa using h
   ·subst h;rw [hun'];simp
   ·cases hl:b.getD j false with
    | false=>simpa using Nat.le_of_lt h
    | true =>
     rcases (two i j _ x M F h).1 with X | L
     ·simp only [zUQ,lM] at X
      exact (zRU X.1.2 hx hk).elim
     ·exact (C (inl F) hl L).elim
  have clean:∀key inf,lku (zO1 B (fun j=>b.getD j false) 0 V) key=some inf->zVd sm.ks inf=true->key∈sm.writes:=by
   intro key inf hk hm
   rcases zV0 hk with ⟨j,x,F,hl,hx⟩ | hk
   ·simp only [dA] at hl
    rcases dO j i with h | h | h
    ·have:=(two j i x _ F M h).2
     rw [<- (entw F).2] at this
     exact zXp this hx hm
    ·subst h;rw [hun'] at hl;cases hl
    ·rcases (two i j _ x M F h).1 with X | L
     ·simp only [zUQ,lM] at X
      rw [<- (entw F).2] at X
      exact (zZY X.2 hx hm).elim
     ·exact (C (inl F) hl L).elim
   ·exact zXp cross0 (zAc hk) hm
  have hs:=hsem _ sees clean a w X
  have next:∀a' w',zWT G (W++zO1 B (fun j=>b.getD j false) 0 V) a' w'->wpAny G.P .any all Q I (b.setIfInBounds i true) a' w':=by
   intro a' w' hq
   have H:∀j,(b.setIfInBounds i true).getD j false=if j=i then true else b.getD j false:=by
    intro j
    simp only [cL,Array.getElem?_setIfInBounds]
    by_cases e:i=j
    ·subst e;simp [show i<b.size by omega]
    ·rw [iN e,iN (Ne.symm e)]
   refine ih _ a' w' (by simpa using hsz) (fun j y hy hl e M L=>?_) ?_ (hq.congr fun key=>?_)
   ·rw [H] at hl ⊢
    by_cases e1:e.on=i
    ·rw [iP e1]
    ·rw [iN e1]
     by_cases e2:j=i
     ·subst e2;rw [ho] at hy;cases hy;exact haft e M L
     ·rw [iN e2] at hl;exact hcl j y hy hl e M L
   ·have h1:(cW all.size).countP (fun j => !(b.setIfInBounds i true).getD j false)+1=(cW all.size).countP (fun j => !b.getD j false):=by
     have gen:∀(l:List Nat),l.Nodup->i∈l->l.countP (fun j => !(b.setIfInBounds i true).getD j false)+1=l.countP (fun j => !b.getD j false):=by
      intro l
      induction l with
      | nil=>intro _ h;cases h
      | cons x l ihl =>
       intro hnd hm
       rw [lS] at hnd
       by_cases e:x=i
       ·subst e
        have h0:l.countP (fun j => !(b.setIfInBounds x true).getD j false)=l.countP (fun j => !b.getD j false):=List.countP_congr fun j F=>by
         rw [H,iN (fun (e:j=x)=>hnd.1 (by rw [<- e];exact F))]
        rw [dG,dG,h0,H,iP rfl,hun']
        simp
       ·have:=ihl hnd.2 (by rcases lD.1 hm with h | h;exact absurd h.symm e;exact h)
        rw [dG,dG,H,iN e]
        omega
     exact gen _ List.nodup_range (by simpa using hilt)
    omega
   ·by_cases hk:key∈W.map (·.1)
    ·rw [zV1 (y:=(sm,W)) (f:=fun j=>(b.setIfInBounds i true).getD j false) (k:=0) M hk (by simp only [dA];rw [H,iP rfl]) fun j x hij F hx=>by
      simp only [dA]
      rw [H,iN (by omega)]
      cases hl:b.getD j false with
      | false=>rfl
      | true =>
       rw [(entw F).1] at hx
       rw [hw1] at hk
       rcases (two i j _ x M F hij).1 with X | L
       ·simp only [zUQ,lM] at X
        exact (zRU X.1.1.2 hk hx).elim
       ·exact (C (inl F) hl L).elim]
     obtain ⟨inf,hi⟩:=zQn hk
     rw [zH1,hi]
    ·rw [zH1,zOs hk]
     refine zRo (fun j x F hx=>?_) rfl
     simp only [dA]
     rw [H]
     by_cases e2:j=i
     ·subst e2;rw [M] at F;cases F;exact absurd hx hk
     ·rw [iN e2]
  unfold wpOp
  simp only [ho]
  by_cases hw:Region.wanted o (yielded all a.tmps)=true
  ·rw [iP hw] at hs ⊢
   exact .inl (hs _ _ next)
  ·rw [iN hw] at hs ⊢
   exact next _ _ hs
theorem zbU {ms:List Nat} {ment0:List (Nat×List Nat)}:∀{l:List Oper} {j:Nat} {acc:List Summ} {V:Vw} {C:Vw->Prop},Lx G all ms ment0 l j acc V C->∃b:List (Summ×Vw),b.length=l.length/\C (zO1 b (fun _=>true) 0 V) /\
  ∀(i:Nat) (o:Oper),l[i]? = some o->∃B W,b[i]? = some (B,W)/\W.map (·.1)=B.writes/\zJk W=B.ment/\zRw ms ment0 (j+i) B (acc++(b.take i).map (·.1))=true/\OpV G all o B W (zO1 b (fun k=>decide (k<i)) 0 V)
 | [],j,acc,V,C,h=>⟨[],rfl,h,fun i o h=>by simp at h⟩
 | o::l,j,acc,V,C,⟨B,W,h1,h2,h3,h4,h5⟩=>by
  obtain ⟨b,X,g2,g3⟩:=zbU h5
  have s:∀(l:List (Summ×Vw)) (f:Nat->Bool) (k:Nat) (V:Vw),zO1 l (fun j=>f (j+1)) k V=zO1 l f (k+1) V:=by
   intro l
   induction l with
   | nil=>intro f k V;rfl
   | cons x l ih=>intro f k V;simp only [zO1];exact ih f (k+1) _
  refine ⟨(B,W)::b,by simp [X],?_,fun i x hx=>?_⟩
  ·simp only [zO1,cond_true]
   have:=s b (fun _=>true) 0 (W++V)
   rw [<- this];exact g2
  ·cases i with
   | zero =>
    simp at hx;subst hx
    refine ⟨B,W,rfl,h2,h3,by simpa using h1,?_⟩
    have:zO1 ((B,W)::b) (fun j=>decide (j<0)) 0 V=V:=by
     have:(fun j:Nat=>decide (j<0))=fun _=>false:=by funext j;simp
     rw [this];exact zNB
    rw [this];exact h4
   | succ i =>
    obtain ⟨F,H,I,J,L,M,Q⟩:=g3 i x (by simpa using hx)
    refine ⟨F,H,by simpa using I,J,L,?_,?_⟩
    ·rw [show j+(i+1)=j+1+i by omega]
     simpa [List.append_assoc] using M
    ·have:zO1 ((B,W)::b) (fun j=>decide (j<i+1)) 0 V=zO1 b (fun j=>decide (j<i)) 0 (W++V):=by
      simp only [zO1]
      rw [<- s b (fun j=>decide (j<i+1)) 0]
      simp
     rw [this];exact Q
theorem zex {id:Nat} {Q:Exit->Act->World->Prop} {V:Vw} (F:G.P.follows .mixedOrders=true) (I:zLk 0 all.toList=true) (L:∀c a w,¬Q (.panic c) a w) (J:∀a w,¬Q .outgrown a w) (H:all.toList.all (fun o=>zGR o.op)=true) (h:Lx G all (zNX all.toList []) (zJk V) all.toList 0 [] V fun M=>∀a w,zWT G M a w->Q .normal a w)
  {a:Act} {w:World} (f:zWT G V a w):(Code.region id all true).wpIn (FR G.ro) 0 G.P Q a w:=by
 obtain ⟨s,h1,h2,h3⟩:=zbU h
 refine wpIn_region_any F (zXj L J H<|zaD I s (by simpa using h1) (fun i o ho=>by simpa using h3 i o (by simpa using ho)) h2 _ _ _ _ (by simp) (fun j y hy C=>?_) ?_ ?_)
 ·simp only [cL,dP] at C
  split at C<;>simp at C
 ·rw [List.countP_eq_length.2]
  ·simp
  ·intro j hj
   simp only [cL,dP]
   split<;>simp
 ·obtain ⟨σ,φ,S,E,W,g2,f⟩:=f
  have:(fun j=>(dQ all.size false).getD j false)=fun _=>false:=by
   funext j
   simp only [cL,dP]
   split<;>simp
  rw [this,zNB]
  exact ⟨σ,φ,S,E,W,g2,{ f with
   env:=fun t p ht=>let ⟨u,hu,hr⟩:=f.env t p ht;⟨u,hu,R.mono (w:=w) (w':=w.drew) (D:=Dof G.X φ w S) (D':=Dof G.X φ w.drew S) (fun b B=>⟨B,rfl⟩) hr⟩
   inv:=⟨f.inv.nodup,f.inv.xlt,f.inv.lt,f.inv.disj,fun n k F=>zCT.next (w:=w) (D:=Dof G.X φ w S) (fun b B=>⟨B,rfl⟩) (fun _ _=>rfl) (f.inv.ok n k F) fun _ _ _ _ _ _ _ _=>rfl⟩
   fr:=f.fr.drew }⟩
end
end
section
variable {ms:List Nat} {V:Vw} {ment0:List (Nat×List Nat)} {t n j:Nat} {α:Type} {acc:List Summ} {E1 E':Env} {o:Oper} {ops rest:List Oper} {S' S1:zAC}
section
variable {ρ : Type} {G:Ctx ρ} {m:Option ρ} {K:List (Kont ρ)} {E:Env} {S:zAC} {all:Array Oper}
theorem Oper.wp_rest {P:Program} {a:Act} {w:World} {B:Act->World->Prop} {Q:Exit->Act->World->Prop} (h:o.wp P a w B Q):o.wp P a w (fun C w'=>B C w'/\∀t,o.dst≠some t->C.tmps[t]? = a.tmps[t]?) Q:=by
 have b:∀(v:Value) (t:Nat) (ds:List Deferred),o.dst≠some t->(({ tmps:=a.tmps,defers:=ds }:Act).put o.dst v).tmps[t]? = a.tmps[t]? := by
  intro v t ds f
  cases F:o.dst with
  | none=>rfl
  | some d=>simp [Act.put,cN (show d≠t from fun e=>f (by rw [F,e]))]
 unfold Oper.wp Oper.upon at h ⊢
 split at h<;>try exact h
 ·exact ⟨h,fun t f=>b _ t a.defers f⟩
 ·exact ⟨h,fun t f=>b _ t a.defers f⟩
 ·exact ⟨h,fun t f=>b _ t _ f⟩
 ·refine h.mono fun e s k=>?_
  split at k<;>try exact k
  exact ⟨k,fun t f=>b _ t a.defers f⟩
 ·refine h.mono fun v s k=>?_
  exact ⟨k,fun t f=>b _ t a.defers f⟩
def zWB:Env->Vw
 | []=>[]
 | (t,p)::E=>(2*t,.pv p)::zWB E
def zWD:zAC->Vw
 | []=>[]
 | (n,b)::S=>(2*n+1,.blk b)::zWD S
def zHi {α : Type}:List α -> Option (List α)
 | []=>some []
 | x::l=>match zHi l with
  | some b=>some (x::b)
  | none=>none
theorem zMd {α : Type}:∀{l b:List α},zHi l=some b->b=l
 | [],b,h=>by simp [zHi] at h;exact h
 | x::l,b,h=>by
  simp only [zHi] at h
  split at h<;>simp at h
  rename_i k f
  rw [<- h,zMd f]
theorem zTQ {t:Nat}:∀{E:Env},lku (zWB E) (2*t)=(lk E t).map Info.pv
 | []=>rfl
 | (k,p)::E=>by
  simp only [zWB,lku,lk]
  by_cases e:k=t
  ·subst e;simp
  ·rw [zBa e,zBa (show ¬2*k=2*t by omega)]
   exact zTQ
theorem zWC {n:Nat}:∀{E:Env},lku (zWB E) (2*n+1)=none
 | []=>rfl
 | (k,p)::E=>by
  simp only [zWB,lku]
  rw [zBa (show ¬2*k=2*n+1 by omega)]
  exact zWC
theorem zWE {n:Nat}:∀{S:zAC},lku (zWD S) (2*n+1)=(lkS S n).map Info.blk
 | []=>rfl
 | (k,b)::S=>by
  simp only [zWD,lku,lkS]
  by_cases e:k=n
  ·subst e;simp
  ·rw [zBa e,zBa (show ¬2*k+1=2*n+1 by omega)]
   exact zWE
theorem zTR {t:Nat}:∀{S:zAC},lku (zWD S) (2*t)=none
 | []=>rfl
 | (k,b)::S=>by
  simp only [zWD,lku]
  rw [zBa (show ¬2*k+1=2*t by omega)]
  exact zTR
theorem zgk {a:Act} {w:World} (f:Pre G E S a w):zWT G (zWB E++zWD S) a w:=by
 obtain ⟨σ,φ,f⟩:=f
 refine ⟨σ,φ,S,E,fun n b=>?_,fun t p=>?_,f⟩
 ·rw [zH1,zWC,zWE]
  cases lkS S n<;>simp
 ·rw [zH1,zTQ]
  cases lk E t<;>simp [zTR]
def zV3:Vw->Option Env
 | []=>some []
 | (k,i)::V=>match zV3 V with
  | some E=>(match k % 2,i with
   | 0,.pv p=>some ((k / 2,p)::E)
   | 1,_=>some E
   | _,_=>none)
  | none=>none
theorem zV4:∀{V:Vw} {E:Env},zV3 V=some E->∀t p,lk E t=some p->lku V (2*t)=some (.pv p)
 | [],E,h,t,p,hl=>by simp [zV3] at h;subst h;simp [lk] at hl
 | (k,i)::V,E,h,t,p,hl=>by
  simp only [zV3] at h
  split at h<;>try simp at h
  rename_i E1 f
  have b:=zV4 f t p
  simp only [lku]
  split at h
  ·rename_i s
   simp at h;subst h
   simp only [lk] at hl
   by_cases e:k / 2=t
   ·rw [e] at hl;simp at hl;subst hl
    have:k=2*t:=by omega
    subst this;simp
   ·rw [zBa e] at hl
    rw [zBa (show ¬k=2*t by omega)]
    exact b hl
  ·rename_i s
   simp at h;subst h
   rw [zBa (show ¬k=2*t by omega)]
   exact b hl
  ·simp at h
def zY9:List Nat->Vw->Option zAC
 | _,[]=>some []
 | seen,(k,i)::V=>match seen.any (lA k) with
  | true=>zY9 seen V
  | false=>match zY9 (k::seen) V with
   | some S=>(match k % 2,i with
    | 1,.blk b=>some ((k / 2,b)::S)
    | _,_=>some S)
   | none=>none
theorem zRJ:∀{V:Vw} {f:List Nat} {S:zAC},zY9 f V=some S->(S.map (·.1)).Nodup/\∀n b,(n,b)∈S->(2*n+1)∉f/\lku V (2*n+1)=some (.blk b)
 | [],f,S,h=>by simp [zY9] at h;subst h;exact ⟨by simp,fun n b h=>by cases h⟩
 | (k,i)::V,f,S,h=>by
  simp only [zY9] at h
  split at h
  ·rename_i I
   obtain ⟨F,H⟩:=zRJ h
   refine ⟨F,fun n b s=>?_⟩
   obtain ⟨B,C⟩:=H n b s
   refine ⟨B,?_⟩
   simp only [lku]
   rw [zBa fun e=>B (by rw [<- e];exact zBE.1 I)]
   exact C
  ·rename_i I
   split at h<;>try simp at h
   rename_i S1 J
   obtain ⟨F,H⟩:=zRJ J
   have old:∀n b,(n,b)∈S1->(2*n+1)∉f/\lku ((k,i)::V) (2*n+1)=some (.blk b):=fun n b s=>by
    obtain ⟨B,C⟩:=H n b s
    simp only [lD,not_or] at B
    refine ⟨B.2,?_⟩
    simp only [lku]
    rw [zBa fun e=>B.1 e.symm]
    exact C
   split at h
   ·rename_i L
    simp at h;subst h
    refine ⟨?_,fun n b s=>?_⟩
    ·simp only [lT,lS]
     refine ⟨fun s=>?_,F⟩
     obtain ⟨⟨n,b⟩,B,C⟩:=lE.1 s
     simp only at C
     have:=(H n b B).1
     simp only [lD,not_or] at this
     exact this.1 (by omega)
    ·rcases lD.1 s with e | s
     ·cases e
      have:2*(k / 2)+1=k:=by omega
      rw [this]
      exact ⟨fun J=>(by rw [zBE.2 J] at I;cases I),by simp [lku]⟩
     ·exact old n b s
   ·simp at h;subst h
    exact ⟨F,old⟩
def zN5 (ms:List Nat):List Oper->List Nat->Bool
 | [],[]=>true
 | o::l,m::r=>lA (zP5 o ms) m&&zN5 ms l r
 | _,_=>false
theorem zZU {pre r:List Nat} (e:ms=pre++r) {o:Oper} (h:∀e∈o.after,Region.binds .any e=true->e.on<pre.length):zP5 o ms=zP5 o pre:=by
 have key:∀(l:List Edge) (s:Nat),(∀e∈l,Region.binds .any e=true->e.on<pre.length)->l.foldl (fun s e=>if Region.binds .any e then s ||| 2 ^ e.on ||| ms.getD e.on 0 else s) s=l.foldl (fun s e=>if Region.binds .any e then s ||| 2 ^ e.on ||| pre.getD e.on 0 else s) s:=by
  intro l
  induction l with
  | nil=>intro s _;rfl
  | cons x l B =>
   intro s k
   simp only [List.foldl_cons]
   rw [B _ fun e f=>k e (lG _ f)]
   congr 1
   by_cases b:Region.binds .any x=true
   ·have:=k x (by simp) b
    simp only [b,if_true,List.getD_eq_getElem?_getD]
    rw [e,lN this]
   ·simp only [iN b]
 exact key _ _ fun e f=>h e (by simpa using f)
theorem zS1 {ms:List Nat}:∀{l:List Oper} {pre r:List Nat},ms=pre++r->zLk pre.length l=true->zN5 ms l r=true->zNX l pre=ms
 | [],pre,[],e,_,_=>by simp [zNX,e]
 | o::l,pre,m::r,e,hk,h=>by
  simp only [zN5,lM] at h
  have b:=lQ h.1
  rw [zZU e fun x hx f=>by simpa using zPR (j:=0) hk rfl x hx f] at b
  simp only [zNX]
  rw [b]
  exact zS1 (pre:=pre++[m]) (by simp [e]) (by simp only [zLk,lM] at hk;simpa using hk.2) h.2
 | [],_,_::_,_,_,h=>by simp [zN5] at h
 | _::_,_,[],_,_,h=>by simp [zN5] at h
def zYI (m:Nat) (b:Summ):Nat->List Summ->Bool
 | _,[]=>true
 | 0,_::_=>false
 | i+1,s::l=>(m.testBit i||zUQ b s)&&zTw b.ks s.ment b.writes&&zYI m b i l
theorem zS6 {m:Nat} {b s:Summ}:∀{l:List Summ} {k:Nat},zUJ m b k (l++[s])=(zUJ m b k l&&((zUQ b s||m.testBit (k+l.length))&&zTw b.ks s.ment b.writes))
 | [],k=>by simp [zUJ]
 | x::l,k=>by
  simp only [dE,zUJ]
  rw [zS6 (l:=l)]
  simp only [cP,Bool.and_assoc]
  rw [show k+1+l.length=k+(l.length+1) by omega]
theorem zVg {m:Nat} {b:Summ}:∀{l:List Summ},zYI m b l.length l=true->zUJ m b 0 l.reverse=true
 | [],_=>rfl
 | s::l,h=>by
  simp only [cP,zYI,lM] at h
  rw [dW,zS6,zVg h.2]
  simp only [List.length_reverse,dA,Bool.true_and,lM,Bool.or_comm]
  exact ⟨by simpa [Bool.or_comm] using h.1.1,h.1.2⟩
def zH4 (m:Nat) (ment0:List (Nat×List Nat)) (j:Nat) (b:Summ) (acc:List Summ):Bool:=zYI m b j acc&&zTw b.ks ment0 b.writes
def PDV (G:Ctx ρ) (m:Option ρ) (all:Array Oper) (ms:List Nat) (ment0:List (Nat×List Nat)) (ops:List Oper) (j:Nat) (acc:List Summ) (V:Vw) (K:List (Kont ρ)):Prop :=
 acc.length=j->∀r,m=some r->Lx G all ms ment0 ops j acc.reverse V fun b=>∀a w,zWT G b a w->kwp G r K .normal a w
theorem zeK {I:Nat} (ms:List Nat) (F:G.P.follows .mixedOrders=true) (b:zLk 0 ops=true) (k:zN5 ms ops ms=true) (B:zHi (zWB E++zWD S)=some V) (s:zJk V=ment0) (h:PDV G m ops.toArray ms ment0 ops 0 [] V K) (C:ops.all (fun o=>zGR o.op)=true:=by rfl):PW G m (.region I ops.toArray true) K E S:=by
 intro r hr a w H
 have:=zMd B
 subst this
 subst s
 have e:zNX ops []=ms:=zS1 (pre:=[]) (r:=ms) rfl b k
 have f:=h rfl r hr
 simp only [List.reverse_nil] at f
 rw [<- e] at f
 exact zex F (by simpa using b) (fun _ _ _=>zGe) (fun _ _=>zDW) (by simpa using C) (by simpa using f) (zgk H)
theorem zgd (H:zV3 V=some E') (I:zY9 [] V=some S') (h:PN G m K E' S'):PDV G m all ms ment0 [] j acc V K:=by
 intro _ r hr a w ⟨σ,φ,S,E,C,F,k⟩
 obtain ⟨s,B⟩:=zRJ I
 have f:zWU S' S:=⟨fun x hx=>by
  obtain ⟨n,b⟩:=x
  exact zAl ((C n b).1 (B n b hx).2),s⟩
 have:Pre G E S' a w:=zLr f ⟨σ,φ,k⟩
 obtain ⟨σ,φ,k⟩:=this
 exact h r hr a w ⟨σ,φ,{ k with env:=fun t p J=>k.env t p ((F t p).1 (zV4 H t p J)) }⟩
def zLp (V:Vw):List Nat->Option Env
 | []=>some []
 | k::l=>match zLp V l with
  | some E=>(match k % 2,lku V k with
   | 0,some (.pv p)=>some ((k / 2,p)::E)
   | _,_=>some E)
  | none=>none
def zME (V:Vw):List Nat->Option zAC
 | []=>some []
 | k::l=>match zME V l with
  | some S=>(match k % 2,lku V k with
   | 1,some (.blk b)=>some ((k / 2,b)::S)
   | _,_=>some S)
  | none=>none
theorem zYQ {V:Vw}:∀{l:List Nat} {E:Env},zLp V l=some E->∀t p,lk E t=some p->2*t∈l/\lku V (2*t)=some (.pv p)
 | [],E,h,t,p,hl=>by simp [zLp] at h;subst h;simp [lk] at hl
 | k::l,E,h,t,p,hl=>by
  simp only [zLp] at h
  split at h<;>try simp at h
  rename_i E1 f
  have b:=zYQ f t p
  split at h
  ·rename_i B s
   simp at h;subst h
   simp only [lk] at hl
   by_cases e:k / 2=t
   ·rw [e] at hl;simp at hl;subst hl
    have:k=2*t:=by omega
    subst this
    exact ⟨lH ..,s⟩
   ·rw [zBa e] at hl
    exact ⟨lG _ (b hl).1,(b hl).2⟩
  ·simp at h;subst h
   exact ⟨lG _ (b hl).1,(b hl).2⟩
theorem zVk {V:Vw}:∀{l:List Nat} {S:zAC},zME V l=some S->∀n b,(n,b)∈S->2*n+1∈l/\lku V (2*n+1)=some (.blk b)
 | [],S,h,n,b,f=>by simp [zME] at h;subst h;cases f
 | k::l,S,h,n,b,f=>by
  simp only [zME] at h
  split at h<;>try simp at h
  rename_i S1 B
  have s:=zVk B n b
  split at h
  ·rename_i F C
   simp at h;subst h
   rcases lD.1 f with e | f
   ·cases e
    have:2*(k / 2)+1=k:=by omega
    rw [this]
    exact ⟨lH ..,C⟩
   ·exact ⟨lG _ (s f).1,(s f).2⟩
  ·simp at h;subst h
   exact ⟨lG _ (s f).1,(s f).2⟩
def zVW (E1:Env) (S1:zAC) (k:Nat):Info:=match k % 2 with
 | 0=>(match lk E1 (k / 2) with
  | some p=>.pv p
  | none=>.pv .junk)
 | _=>(match lkS S1 (k / 2) with
  | some b=>.blk b
  | none=>.gone)
def wOf (E1:Env) (S1:zAC):List Nat->Option Vw
 | []=>some []
 | k::l=>match wOf E1 S1 l with
  | some W=>(match zVW E1 S1 k with
   | .pv p=>some ((k,.pv p)::W)
   | .blk b=>some ((k,.blk b)::W)
   | .gone=>some ((k,.gone)::W))
  | none=>none
theorem zfT {E1:Env} {S1:zAC}:∀{l:List Nat} {W:Vw},wOf E1 S1 l=some W->W=l.map fun k=>(k,zVW E1 S1 k)
 | [],W,h=>by simp [wOf] at h;subst h;rfl
 | k::l,W,h=>by
  simp only [wOf] at h
  split at h<;>try simp at h
  rename_i s b
  have f:=zfT b
  subst f
  rw [lT]
  split at h<;>simp at h<;>subst h<;>rename_i hi<;>rw [hi]
theorem zW5 {α : Type} {f:Nat -> α} {key:Nat}:∀{l:List Nat},key∈l->lku (l.map fun k=>(k,f k)) key=some (f key)
 | [],h=>by cases h
 | k::l,h=>by
  simp only [lT,lku]
  by_cases e:k=key
  ·subst e;simp
  ·rw [zBa e]
   exact zW5 ((lD.1 h).resolve_left (Ne.symm e))
theorem zbN {n:Nat} {B:zAC}:∀{A:zAC},lkS (A++B) n=match lkS A n with
  | some b=>some b
  | none=>lkS B n
 | []=>rfl
 | (k,b)::A=>by
  simp only [dE,lkS]
  cases lA k n
  ·exact zbN
  ·rfl
theorem zQm {n:Nat}:∀{A:zAC},n∈A.map (·.1)->∃b,lkS A n=some b
 | [],h=>by simp at h
 | (k,b)::A,h=>by
  simp only [lkS]
  by_cases e:k=n
  ·subst e;exact ⟨b,by simp⟩
  ·rw [zBa e]
   simp only [lT,lD] at h
   exact zQm (h.resolve_left (Ne.symm e))
theorem zK4 {n:Nat} {f:Nat->Bool}:∀{A:zAC},lkS (A.filter fun x=>f x.1) n=if f n then lkS A n else none
 | []=>by simp [lkS]
 | (k,b)::A=>by
  simp only [List.filter_cons]
  by_cases e:k=n
  ·subst e
   cases h:f k
   ·simp [zK4,h]
   ·simp [lkS]
  ·cases h:f k
   ·simp only [dL,if_false,lkS,zBa e,cond_false];exact zK4
   ·simp only [if_true,lkS,zBa e,cond_false];exact zK4
def wE (E1:Env):List Nat->Env
 | []=>[]
 | k::l=>bif lA (k % 2) 0 then (k / 2,(lk E1 (k / 2)).getD .junk)::wE E1 l else wE E1 l
theorem zeo {E1:Env} {E:Env} {t:Nat}:∀{l:List Nat},2*t∈l->lk (wE E1 l++E) t=some ((lk E1 t).getD .junk)
 | [],h=>by cases h
 | k::l,h=>by
  simp only [wE]
  by_cases b:k % 2=0
  ·rw [b]
   simp only [dR,cond_true,dE,lk]
   by_cases e:k / 2=t
   ·rw [e];simp
   ·rw [zBa e]
    exact zeo ((lD.1 h).resolve_left (by omega))
  ·rw [zBa b]
   exact zeo ((lD.1 h).resolve_left (by omega))
theorem zYs {E1:Env} {E:Env} {t:Nat}:∀{l:List Nat},2*t∉l->lk (wE E1 l++E) t=lk E t
 | [],_=>rfl
 | k::l,h=>by
  simp only [lD,not_or] at h
  simp only [wE]
  by_cases b:k % 2=0
  ·rw [b]
   simp only [dR,cond_true,dE,lk]
   rw [zBa (show ¬k / 2=t by omega)]
   exact zYs h.2
  ·rw [zBa b]
   exact zYs h.2
def zJ9:List Nat->zAC->zAC->Prop
 | [],_,_=>True
 | n::l,S1,S0=>lkS S1 n=lkS S0 n/\zJ9 l S1 S0
theorem zUC {S1 S0:zAC}:∀{l:List Nat},zJ9 l S1 S0->∀n∈l,lkS S1 n=lkS S0 n
 | [],_,n,h=>by cases h
 | a::l,hk,n,h=>by
  rcases lD.1 h with e | h
  ·subst e;exact hk.1
  ·exact zUC hk.2 n h
def inW (writes:List Nat) (n:Nat):Bool:=writes.any (lA (2*n+1))
def zHd (G:Ctx ρ) (ks writes keep:List Nat) (S0:zAC) (o:Oper):Bool :=
 zA2 (S0.map (·.1))&&(S0.map (·.1)).all (fun n=>keep.any (lA n)||inW writes n)&&ks.all (fun n=>zEY G n&&inW writes n)&&writes.all (fun k=>lA (k % 2) 1||lB (k / 2) G.fn.ntmps) &&
 (match o.dst with
  | some d=>writes.any (lA (2*d))
  | none=>true)
def zGG (N0 ks writes keep:List Nat) (E1:Env) (S1:zAC):Bool :=
 (S1.map (·.1)).all (fun n=>keep.any (lA n)||inW writes n)&&zOG (S1.map (·.1)) (N0++ks)&&zDE (N0++ks) S1&&zD5 (N0++ks) (E1.map (·.2))
theorem zbO {t:Nat} {p:PV}:∀{E:Env},lk E t=some p->p∈E.map (·.2)
 | [],h=>by simp [lk] at h
 | (k,q)::E,h=>by
  simp only [lk] at h
  cases b:lA k t
  ·rw [b] at h;simp only [lT];exact lG _ (zbO h)
  ·rw [b] at h;simp at h;subst h;simp
theorem noMent {ks:List Nat} {l:List PV} (h:(names.nameL l).any (fun m=>ks.any (lA m))=false) {i:Nat} {c:PV} (s:l[i]? = some c) {n:Nat} (B:n∈ks):zOm n c=false:=by
 cases b:zOm n c with
 | false=>rfl
 | true =>
  unfold zOm at b
  obtain ⟨x,f,k⟩:=dN.1 b
  have:=lQ k
  subst this
  rw [gK] at h
  exact absurd (zBE.2 B) (h n (zFw s f))
theorem zUR {M:Option α} {g : α -> Option ρ} (reads writes ks N0 keep:List Nat) (E1 : α -> Env) (S1 : α -> zAC) {E0:Env} {S0:zAC} {W : α -> Vw} {ment:List (Nat×List Nat)}
  (hE0:zLp V reads=some E0) (hS0:zME V reads=some S0) (hW:∀y,wOf (E1 y) (S1 y) writes=some (W y)) (B:∀y,zJk (W y)=ment) (hok:zH4 (ms.getD j 0) ment0 j ⟨reads,writes,ks,ment⟩ acc=true)
  (hc:zHd G ks writes keep S0 o=true) (hc2:∀y,zGG N0 ks writes keep (E1 y) (S1 y)=true) (hkeep:∀y,zJ9 keep (S1 y) S0)
  (h:∀w0 X X0 σ0 hl,PO (⟨G.P,G.fn,w0,X,X0,σ0,N0,fun _ _ _=>True,G.dz,G.L,hl,G.ro⟩:Ctx α) (bnd M some) all [o] [.iter fun y a w=>Pre (⟨G.P,G.fn,w0,X,X0,σ0,N0,fun _ _ _=>True,G.dz,G.L,hl,G.ro⟩:Ctx α) (E1 y) (S1 y) a w] E0 S0)
  (k:∀y,M=some y->PDV G (g y) all ms ment0 rest (j+1) (⟨reads,writes,ks,ment⟩::acc) (W y++V) K):PDV G (bnd M g) all ms ment0 (o::rest) j acc V K:=by
 intro hlen r hr
 cases hM:M with
 | none=>rw [hM] at hr;simp [bnd] at hr
 | some y =>
 rw [hM] at hr h
 have hr':g y=some r:=hr
 have hWy:=zfT (hW y)
 have hok':zRw ms ment0 j ⟨reads,writes,ks,ment⟩ acc.reverse=true:=by
  unfold zH4 at hok
  unfold zRw
  simp only [lM] at hok ⊢
  exact ⟨zVg (by rw [hlen];exact hok.1),hok.2⟩
 have hk0:=k y hM (by simp [hlen]) r hr'
 rw [dW] at hk0
 refine ⟨⟨reads,writes,ks,ment⟩,W y,hok',by rw [hWy,List.map_map];exact List.map_id writes,B y,?_,hk0⟩
 intro V' hread hclean a w ⟨σ,φ,S,E,h1,h2,hp⟩
 simp only at hread hclean
 unfold zHd at hc
 simp only [lM] at hc
 obtain ⟨⟨⟨⟨c1,c2⟩,c3⟩,c4⟩,c5⟩:=hc
 have c2':∀n∈S0.map (·.1),n∈keep\/2*n+1∈writes:=fun n C=>by
  have:=lR.1 c2 n C
  simp only [dD,inW] at this
  exact this.imp zBE.1 zBE.1
 have c3':∀n∈ks,zEY G n=true/\2*n+1∈writes:=fun n C=>by
  have:=lR.1 c3 n C
  simp only [lM,inW] at this
  exact ⟨this.1,zBE.1 this.2⟩
 have d1:=hc2 y
 unfold zGG at d1
 simp only [lM] at d1
 obtain ⟨⟨⟨d1,d2⟩,d3⟩,d4⟩:=d1
 have d1':∀n∈(S1 y).map (·.1),n∈keep\/2*n+1∈writes:=fun n C=>by
  have:=lR.1 d1 n C
  simp only [dD,inW] at this
  exact this.imp zBE.1 zBE.1
 have hS0S:∀n b,(n,b)∈S0->lkS S n=some b:=fun n b B=>by
  obtain ⟨g1,J⟩:=zVk hS0 n b B
  exact (h1 n b).1 ((hread _ g1).trans J)
 have s:zWU S0 S:=⟨fun x hx=>zAl (hS0S x.1 x.2 hx),zK7 c1⟩
 let X':Nat->Prop:=fun b=>G.X b\/∃n k,(n,k)∈S/\n∉S0.map (·.1) /\ φ n b
 have hDD:∀b,Dof G.X φ w S b->Dof X' φ w S0 b:=fun b ⟨h1,h2,h3⟩=>⟨h1,fun h=>by
  rcases h with h | ⟨n,k,h,_,hf⟩
  ·exact h2 h
  ·exact h3 n k h hf,fun n k h=>h3 n k (s.1 _ h)⟩
 have hi':Inv X' σ φ w S0:=by
  refine ⟨s.2,fun b H=>?_,fun b ⟨n,k,B,hf⟩=>⟨(hp.inv.lt b ⟨n,k,s.1 _ B,hf⟩).1,fun h=>?_⟩,fun n m k l h1 h2=>hp.inv.disj n m k l (s.1 _ h1) (s.1 _ h2),fun n k B=>(hp.inv.ok n k (s.1 _ B)).mono hDD⟩
  ·rcases H with H | ⟨n,k,h,_,hf⟩
   ·exact hp.inv.xlt b H
   ·exact (hp.inv.lt b ⟨n,k,h,hf⟩).1
  ·rcases h with h | ⟨n',k',h,hn',hf'⟩
   ·exact (hp.inv.lt b ⟨n,k,s.1 _ B,hf⟩).2 h
   ·have hne:n≠n':=fun e=>hn' (by rw [<- e];exact lE.2 ⟨_,B,rfl⟩)
    exact hp.inv.disj n n' k k' (s.1 _ B) h hne b hf hf'
 have hl:Lay G.L (fun b=>¬zCQ φ S0 b) w:=hp.laid fun b hf ⟨n,k,h,H⟩=>hf ⟨n,k,s.1 _ h,H⟩
 have hp1:Pre' (⟨G.P,G.fn,w,X',zCQ φ S0,σ,N0,fun _ _ _=>True,G.dz,G.L,hl,G.ro⟩:Ctx α) E0 S0 a w σ φ :=
  ⟨hp.defers,hp.size,fun t p ht=>by
   obtain ⟨g1,J⟩:=zYQ hE0 t p ht
   obtain ⟨u,hu,hru⟩:=hp.env t p ((h2 t p).1 ((hread _ g1).trans J))
   exact ⟨u,hu,hru.mono fun b H=>⟨hDD b H,rfl⟩⟩,hi',Fr.refl _ _,fun _ _=>rfl,fun b H _=>H⟩
 have hop:=zdz (h w X' (zCQ φ S0) σ hl) rfl ⟨σ,φ,hp1⟩
 have clean:∀{key:Nat} {i:Info},lku V' key=some i->key∉writes->zVd ks i=false:=fun {key i} hk C=>by
  cases hmi:zVd ks i with
  | false=>rfl
  | true=>exact absurd (hclean key i hk hmi) C
 have fin:∀a' w',Pre (⟨G.P,G.fn,w,X',zCQ φ S0,σ,N0,fun _ _ _=>True,G.dz,G.L,hl,G.ro⟩:Ctx α) (E1 y) (S1 y) a' w'->(∀t,o.dst≠some t->a'.tmps[t]? = a.tmps[t]?)->zWT G (W y++V') a' w':=by
  rintro a' w' ⟨σ',φ',I⟩ hrest
  let S2:zAC:=S.filter fun x => !((S0.map (·.1)).any (lA x.1)) && !(inW writes x.1)
  have hS2m:∀n k,(n,k)∈S2->(n,k)∈S/\n∉S0.map (·.1)/\2*n+1∉writes:=fun n k B=>by
   obtain ⟨g1,J⟩:=List.mem_filter.1 B
   simp only [lM,Bool.not_eq_true'] at J
   exact ⟨g1,fun h=>(by rw [zBE.2 h] at J;cases J.1),fun h=>(by have:=J.2;unfold inW at this;rw [zBE.2 h] at this;cases this)⟩
  have hlkS:∀n b,(n,b)∈S->lkS S n=some b:=fun n b B=>by
   obtain ⟨b',hb'⟩:=zQm (A:=S) (lE.2 ⟨_,B,rfl⟩)
   rw [hb',zOt hp.inv.nodup (zAl hb') B]
  obtain ⟨σ2,φ2,t1,t2,t3,t4,t5,t6,t7,t8⟩:=zZn (S2:=S2) (ks:=ks) hp s (X':=X') (fun b=>Iff.rfl) I.inv I.fr I.agree (fun b H hlt=>I.new b H hlt)
   (fun n k B=>zLu d2 n (lE.2 ⟨_,B,rfl⟩)) (fun n _ cells B i c hc m hmn=>zKv d3 n cells B i c hc m hmn)
   (fun n k B=>by
    obtain ⟨g1,J,g3⟩:=hS2m n k B
    refine ⟨fun hk=>g3 (c3' n hk).2,J,k,g1,?_⟩
    cases k with
    | box ty cells =>
     have:=clean ((h1 n (.box ty cells)).2 (hlkS n _ g1)) g3
     exact .inr ⟨ty,cells,cells,rfl,rfl,rfl,fun i c hc=>.inr ⟨hc,fun m B=>noMent this hc B⟩⟩
    | _=>exact .inl ⟨rfl,by simp⟩)
   (by
    rw [gG]
    refine dM.2 ⟨I.inv.nodup,(List.filter_sublist.map _).nodup hp.inv.nodup,fun n C n' hn' e=>?_⟩
    subst e
    obtain ⟨⟨n0,k0⟩,hm0,e0⟩:=lE.1 hn'
    simp only at e0;subst e0
    obtain ⟨g1,J,g3⟩:=hS2m n0 k0 hm0
    have hk:=(d1' n0 C).resolve_right g3
    obtain ⟨b,H⟩:=zQm C
    rw [zUC (hkeep y) n0 hk] at H
    exact J (lE.2 ⟨_,zAl H,rfl⟩))
   (fun n hk C=>by
    have:=(c3' n hk).1
    unfold zEY at this
    rw [zBE.2 C] at this;cases this)
  have hlkS2:∀n,n∉S0.map (·.1)->2*n+1∉writes->lkS S2 n=lkS S n:=fun n g1 J=>by
   have:lkS S2 n=if (!((S0.map (·.1)).any (lA n)) && !(inW writes n)) then lkS S n else none:=zK4 (f:=fun n => !((S0.map (·.1)).any (lA n)) && !(inW writes n))
   rw [this,iP]
   have e1:(S0.map (·.1)).any (lA n)=false:=by
    cases hh:(S0.map (·.1)).any (lA n) with
    | false=>rfl
    | true=>exact absurd (zBE.1 hh) g1
   have e2:inW writes n=false:=by
    cases hh:inW writes n with
    | false=>rfl
    | true=>exact absurd (zBE.1 hh) J
   rw [e1,e2];rfl
  have hlkS2w:∀n,2*n+1∈writes->lkS S2 n=none:=fun n g=>by
   have:lkS S2 n=if (!((S0.map (·.1)).any (lA n)) && !(inW writes n)) then lkS S n else none:=zK4 (f:=fun n => !((S0.map (·.1)).any (lA n)) && !(inW writes n))
   rw [this,iN]
   have e2:inW writes n=true:=zBE.2 g
   rw [e2];simp
  refine ⟨σ2,φ2,S1 y++S2,wE (E1 y) writes++E,fun n b=>?_,fun t p=>?_,I.defers,I.size,fun t p ht=>?_,t5,t6,t7,t8⟩
  ·rw [zH1,zbN]
   by_cases F:2*n+1∈writes
   ·rw [hWy,zW5 F,hlkS2w n F]
    have e1:(2*n+1) % 2=1:=by omega
    have e2:(2*n+1) / 2=n:=by omega
    simp only [zVW,e1,e2]
    cases lkS (S1 y) n<;>simp
   ·rw [hWy,zOs (by simpa using F)]
    cases hs:lkS (S1 y) n with
    | some b' =>
     have hk:=(d1' n (lE.2 ⟨_,zAl hs,rfl⟩)).resolve_right F
     rw [zUC (hkeep y) n hk] at hs
     have:=(h1 n b').2 (hS0S n b' (zAl hs))
     simp [this]
    | none =>
     have C:n∉S0.map (·.1):=fun C=>by
      have hk:=(c2' n C).resolve_right F
      obtain ⟨b,H⟩:=zQm C
      rw [<- zUC (hkeep y) n hk,hs] at H;cases H
     simp only
     rw [hlkS2 n C F]
     exact h1 n b
  ·rw [zH1]
   by_cases F:2*t∈writes
   ·rw [hWy,zW5 F,zeo F]
    have e1:(2*t) % 2=0:=by omega
    have e2:(2*t) / 2=t:=by omega
    simp only [zVW,e1,e2]
    cases lk (E1 y) t<;>simp
   ·rw [hWy,zOs (by simpa using F),zYs F]
    exact h2 t p
  ·by_cases F:2*t∈writes
   ·rw [zeo F] at ht
    have hlt:t<G.fn.ntmps:=by
     have:=lR.1 c4 _ F
     have e1:(2*t) % 2=0:=by omega
     have e2:(2*t) / 2=t:=by omega
     rw [e1,e2] at this
     simpa [cO] using this
    cases hl:lk (E1 y) t with
    | some q =>
     rw [hl] at ht;simp at ht;subst ht
     obtain ⟨u,hu,hru⟩:=I.env t q hl
     have hnn:∀n∈names q,n∈N0++ks:=by
      obtain ⟨i,hi⟩:=List.mem_iff_getElem?.1 (zbO hl)
      exact zKw d4 hi
     exact ⟨u,hu,(hru.mono fun b H=>⟨t4 b H,rfl⟩).agree fun n C=>t1 n (hnn n C)⟩
    | none =>
     rw [hl] at ht;simp at ht;subst ht
     have hsz:a'.tmps.size=G.fn.ntmps:=I.size
     exact ⟨a'.tmps[t]'(by omega),dC _,.junk⟩
   ·rw [zYs F] at ht
    obtain ⟨u,hu,hru⟩:=hp.env t p ht
    have hd:o.dst≠some t:=fun e=>by rw [e] at c5;exact F (zBE.1 c5)
    refine ⟨u,(hrest t hd).trans hu,(hru.mono t3).agree fun n C=>t2 n fun hk=>?_⟩
    have:=clean ((h2 t p).2 ht) F
    unfold zVd zRr at this
    rw [gK] at this
    exact this n C (zBE.2 hk)
 by_cases F:Region.wanted o (yielded all a.tmps)=true
 ·rw [iP F] at hop ⊢
  intro Kn Q hK
  exact Oper.wp_mono (fun a' w' ⟨g1,J⟩=>hK _ _ (fin a' w' g1 J)) (Oper.wp_rest (hop (fun a' w'=>Pre _ (E1 y) (S1 y) a' w') Q fun _ _ g=>g))
 ·rw [iN F] at hop ⊢
  refine fin _ _ hop fun t ht=>?_
  cases hd:o.dst with
  | none=>rfl
  | some d=>simp [Act.put,cN (show d≠t from fun e=>ht (by rw [hd,e]))]
theorem zfL {H:Ctx α} {y : α} {E1 : α -> Env} {S1 : α -> zAC} (f:zOO (E1 y) E') (h:zGN (S1 y) S') (k:zA2 ((S1 y).map (·.1))=true):PN H (some y) [.iter fun y a w=>Pre H (E1 y) (S1 y) a w] E' S':=by
 intro r hr a w b
 cases hr
 obtain ⟨σ,φ,b⟩:=zLr (zF0 h k) b
 exact ⟨σ,φ,{ b with env:=fun t p s=>b.env t p (zMm f t p s) }⟩
theorem zVl (reads writes ks N0 keep:List Nat) (E1:Env) (S1:zAC) {E0:Env} {S0:zAC} {W:Vw} {ment:List (Nat×List Nat)}
  (f:zLp V reads=some E0) (s:zME V reads=some S0) (H:wOf E1 S1 writes=some W) (J:zJk W=ment) (C:zH4 (ms.getD j 0) ment0 j ⟨reads,writes,ks,ment⟩ acc=true)
  (I:zHd G ks writes keep S0 o=true) (B:zGG N0 ks writes keep E1 S1=true) (b:zJ9 keep S1 S0)
  (h:∀w0 X X0 σ0 F,PO (⟨G.P,G.fn,w0,X,X0,σ0,N0,fun _ _ _=>True,G.dz,G.L,F,G.ro⟩:Ctx Unit) (some ()) all [o] [.iter fun _ a w=>Pre (⟨G.P,G.fn,w0,X,X0,σ0,N0,fun _ _ _=>True,G.dz,G.L,F,G.ro⟩:Ctx Unit) E1 S1 a w] E0 S0)
  (k:PDV G m all ms ment0 rest (j+1) (⟨reads,writes,ks,ment⟩::acc) (W++V) K):PDV G m all ms ment0 (o::rest) j acc V K :=
 zUR (M:=some ()) (g:=fun _=>m) reads writes ks N0 keep (fun _=>E1) (fun _=>S1) f s (fun _=>H) (fun _=>J) C I (fun _=>B) (fun _=>b) h fun _ _=>k
theorem zPY {H:Ctx Unit} (b:zOO E1 E') (f:zGN S1 S') (h:zA2 (S1.map (·.1))=true):PN H (some ()) [.iter fun _ a w=>Pre H E1 S1 a w] E' S':=zfL (E1:=fun _=>E1) (S1:=fun _=>S1) b f h
theorem Lx.congr {ms:List Nat} {ment0:List (Nat×List Nat)}:∀{ops:List Oper} {j:Nat} {acc:List Summ} {V V':Vw} {s b:Vw->Prop},(∀key,lku V key=lku V' key)->(∀B k,(∀key,lku B key=lku k key)->b k->s B)->Lx G all ms ment0 ops j acc V' b->Lx G all ms ment0 ops j acc V s
 | [],_,_,_,_,_,_,h,hk,hl=>hk _ _ h hl
 | o::ops,j,acc,V,V',s,b,h,hk,⟨sm,W,h1,h2,h3,h4,h5⟩ =>
  ⟨sm,W,h1,h2,h3,fun k C F=>h4 k (fun key f=>(C key f).trans (h key)) F,Lx.congr (fun key=>by rw [zH1,zH1,h]) hk h5⟩
theorem zBd {b:Bool} {C F:Option ρ} (M:lku V (2*t)=some (.pv (.v (.bool b)))) (J:PDV G C all ms ment0 ops j acc ((2*t,.pv (.v (.bool true)))::V) K) (L:PDV G F all ms ment0 ops j acc ((2*t,.pv (.v (.bool false)))::V) K):PDV G (cnd b C F) all ms ment0 ops j acc V K:=by
 have same:∀(k:Bool),b=k->∀key,lku V key=lku ((2*t,Info.pv (.v (.bool k)))::V) key:=fun k e key=>by
  simp only [lku]
  by_cases h:2*t=key
  ·subst h;subst e;rw [M];simp
  ·rw [zBa h];rfl
 intro f r hr
 cases b with
 | true=>exact Lx.congr (same true rfl) (fun H I s h a w B=>h a w (B.congr fun key=>(s key).symm)) (J f r hr)
 | false=>exact Lx.congr (same false rfl) (fun H I s h a w B=>h a w (B.congr fun key=>(s key).symm)) (L f r hr)
theorem zbq {t:Operand} {x y:Code} (J : α -> Option ρ) (b : α -> Env) (f : α -> zAC) (k:∀z,PW G (J z) y K (b z) (f z)) (h:(∀z,PW G (J z) y K (b z) (f z))->PDV G m all ms ment0 ops j acc V (.seq (.cond t x y)::K)):PDV G m all ms ment0 ops j acc V (.seq (.cond t x y)::K):=h k
end
end
section
variable {q:PV}
section
variable {ρ : Type} {G:Ctx ρ} {m:Option ρ} {K:List (Kont ρ)} {E:Env} {S:zAC} {all:Array Oper}
def zRt (q:PV):Nat->List PV->Option (List PV)
 | 0,.v (.slice none 0 0)::cs=>some (q::cs)
 | i+1,c::cs=>match zRt q i cs with
  | some ds=>some (c::ds)
  | none=>none
 | _,_=>none
theorem zRu {q:PV}:∀{i:Nat} {cs ds:List PV},zRt q i cs=some ds->ds.length=cs.length
 | 0,.v (.slice none 0 0)::cs,ds,h=>by simp [zRt] at h;subst h;rfl
 | i+1,c::cs,ds,h=>by
  simp only [zRt] at h
  split at h
  ·rename_i f b;cases h;simp [zRu b]
  ·cases h
theorem zbg:∀{i:Nat} {cs ds:List PV},zRt q i cs=some ds->∀{p:PV},zSb p->cs[0]? = some p->ds[0]? = some p
 | 0,.v (.slice none 0 0)::cs,ds,h,_,⟨l,hl,_⟩,h0=>by subst hl;simp at h0
 | i+1,c::cs,ds,h,_,_,h0=>by
  simp only [zRt] at h
  split at h
  ·cases h;exact h0
  ·cases h
theorem zUI {q:PV}:∀{i:Nat} {cs ds:List PV},zRt q i cs=some ds->∀(j:Nat) (d:PV),ds[j]? = some d->∃c,cs[j]? = some c/\(d=c\/(c=.v (.slice none 0 0)/\d=q))
 | 0,.v (.slice none 0 0)::cs,ds,h,j,d,hd=>by
  simp [zRt] at h;subst h
  cases j with
  | zero=>exact ⟨_,rfl,.inr ⟨rfl,by simpa using hd.symm⟩⟩
  | succ j=>exact ⟨d,by simpa using hd,.inl rfl⟩
 | i+1,c::cs,ds,h,j,d,hd=>by
  simp only [zRt] at h
  split at h
  ·rename_i f b;cases h
   cases j with
   | zero=>exact ⟨c,rfl,.inl (by simpa using hd.symm)⟩
   | succ j=>exact zUI b j d (by simpa using hd)
  ·cases h
theorem zVp (n e size b i:Nat) {q:PV} (hq:∀(σ : Nat->Value) (w:World) (D:Nat->Prop),σ n=.slice none 0 0->R σ w D q (.slice none 0 0)) {ty:Nat} {cs ds:List PV} {E':Env} {S' f:zAC} (hn:zEY G n=true) (hE:zFh n E=some E') (hS:zEx n S=some S')
  (I:lkS ((n,.arr e size [])::S') b=some (.box ty cs)) (s:zRt q i cs=some ds) (H:zOD b (.box ty ds) ((n,.arr e size [])::S')=some f)
  {a:Act} {w:World}:Pre G E S a w->Pre G E' f a w:=by
 intro ⟨σ,φ,M⟩
 have X:=M.lay (w':=w) (k:=.arr e size []) (hdr:=.slice none 0 0) (fp:=fun _=>False) hn hE hS (cB _) (fun b I=>I.elim) (fun _ _ _=>rfl) rfl rfl rfl fun D' C=>⟨by simp,.inl ⟨rfl,⟨_,rfl⟩,fun x h=>h⟩⟩
 have hm:=zAl I
 refine ⟨_,_,X.turn hm H rfl (fun _ _=>rfl) rfl rfl rfl fun D' C=>?_⟩
 rcases X.inv.ok b _ hm with J | hw
 rotate_left
 ·refine .inr (hw.map (zRu s) (fun p M h=>zbg s M h) (fun j c d u k0 L B=>?_) (fun p u hr=>hr.mono C) fun _ _=>rfl)
  obtain ⟨W,F,Q⟩:=zUI s j d L
  rw [k0] at F;cases F
  rcases Q with rfl | ⟨rfl,rfl⟩
  ·exact B.mono C
  ·obtain ⟨rfl,_⟩:=B.flat_inv
   exact hq _ _ _ (zAw ..)
 obtain ⟨b',us,g1,g2,g3,g4,g5⟩:=J
 refine .inl ⟨b',us,g1,g2,by rw [g3,zRu s],g4,fun j d u L hu=>?_⟩
 obtain ⟨W,F,Q⟩:=zUI s j d L
 have B:=g5 j W u F hu
 rcases Q with rfl | ⟨rfl,rfl⟩
 ·exact B.mono C
 ·obtain ⟨rfl,_⟩:=B.flat_inv
  exact hq _ _ _ (zAw ..)
theorem zd5 (n:Nat) (σ : Nat->Value) (w:World) (D:Nat->Prop) (h : σ n=.slice none 0 0):R σ w D (.own n) (.slice none 0 0):=by
 have:R σ w D (.own n) (σ n):=.own (by rw [h];rfl)
 rwa [h] at this
theorem zJm {c:Code} (n e size b i:Nat) {ty:Nat} {cs ds:List PV} {E':Env} {S' f:zAC} (H:zEY G n=true) (s:zFh n E=some E') (B:zEx n S=some S')
  (C:lkS ((n,.arr e size [])::S') b=some (.box ty cs)) (F:zRt (.own n) i cs=some ds) (h:zOD b (.box ty ds) ((n,.arr e size [])::S')=some f) (k:PW G m c K E' f):PW G m c K E S :=
 fun r hr a w I=>k r hr a w (zVp n e size b i (zd5 n) H s B C F h I)
end
end
section
open Go Go.MapKept
variable {κ ν:Type} {o:Oper} {rest:List Oper} {σ:Nat->Value} {D:Nat->Prop}
def zH2 {κ ν : Type} [DecidableEq κ]:List (κ × ν) -> κ -> Option Nat
 | [],_=>none
 | x::l,k=>if x.1=k then some 0 else (zH2 l k).map (· + 1)
def zG9 {κ ν : Type} [DecidableEq κ] (l:List (κ × ν)) (k : κ) (v : ν):List (κ × ν):=match zH2 l k with
 | some j=>l.set j (k,v)
 | none=>l++[(k,v)]
def zLJ {κ ν : Type} [DecidableEq κ] (l:List (κ × ν)) (k : κ) (z : ν) : ν := match zH2 l k with
 | some j=>(l[j]?).elim z (·.2)
 | none=>z
theorem zJB {κ ν : Type} [DecidableEq κ]:∀{l:List (κ × ν)} {k : κ} {j:Nat},zH2 l k=some j->∃v,l[j]? = some (k,v)
 | [],_,_,h=>by simp [zH2] at h
 | x::l,k,j,h=>by
  simp only [zH2] at h
  split at h
  ·rename_i e;cases h;exact ⟨x.2,by rw [<- e];rfl⟩
  ·obtain ⟨i,hi,rfl⟩:=lI.1 h
   obtain ⟨v,b⟩:=zJB hi
   exact ⟨v,by simpa using b⟩
structure KeyEnc {κ : Type} (d:TypeDesc) (key : κ -> Value):Prop where
 isKey:∀a,IsKey d (key a)
 inj:∀a b,key a=key b->a=b
def zOF (k:IntKind) (a:Int):Value:=.int k a
def zNV (s:List UInt8):Value:=.string ⟨⟨s⟩⟩
theorem zKJ (k:IntKind):KeyEnc (.int k) (zOF k):=⟨fun a=>by simp [IsKey,zOF],fun a b h=>by simpa [zOF] using h⟩
theorem zJA:KeyEnc .string zNV:=⟨fun a=>by simp [IsKey,zNV],fun a b h=>by simpa [zNV] using h⟩
theorem zGC {κ ν : Type} [DecidableEq κ] {d:TypeDesc} {key : κ -> Value} (K:KeyEnc d key) (k : κ):∀(l:List (κ × ν)) (f:List MapEntry) (i:Nat),f.length=l.length->(∀(j:Nat) (e:MapEntry) (x : κ × ν),f[j]? = some e->l[j]? = some x->e.key=key x.1) ->
  Instr.findNow d (key k) f i=some (match zH2 l k with | some j=>(f[j]?).map fun e=>(i+j,e.val) | none=>none)
 | [],[],i,_,_=>rfl
 | x::l,e::f,i,hl,h=>by
  have F:=h 0 e x rfl rfl
  have H:=zGC K k l f (i+1) (by simpa using hl) fun j s I B C=>h (j+1) s I (by simpa using B) (by simpa using C)
  obtain ⟨r,hr,b⟩:=sameNow_of_keys (K.isKey k) (K.isKey x.1)
  simp only [Instr.findNow,F,hr,zH2]
  cases r with
  | true =>
   have:x.1=k:=(K.inj _ _ (b.1 rfl)).symm
   rw [iP this]
   rfl
  | false =>
   have:¬x.1=k:=fun e=>by have:=b.2 (by rw [e]);cases this
   rw [iN this,H]
   cases zH2 l k with
   | none=>rfl
   | some j=>simp only [lW,List.getElem?_cons_succ];rw [show i+1+j=i+(j+1) by omega]
 | [],_::_,_,hl,_=>by simp at hl
 | _::_,[],_,hl,_=>by simp at hl
section
variable {ρ : Type} {G:Ctx ρ} {m:Option ρ} {K:List (Kont ρ)} {E:Env} {S:zAC} {all:Array Oper}
theorem zH6 (n:Nat) {t:TypeId} {d:Nat} {E':Env} {S':zAC} (J:o.op=.makeMap t none) (H:gE all E o=some true) (F:o.dst=some d) (h:lB d G.fn.ntmps=true) (I:zEY G n=true) (B:zFh n E=some E') (C:zEx n S=some S')
  (k:PO G m all rest K ((d,.own n)::E') ((n,.mp [])::S')):PO G m all (o::rest) K E S:=by
 refine zGT H fun r hr a w ⟨σ,φ,L⟩=>?_
 have f:(execOp a.eval o).run G.P w=.ok (.value (.map (some w.heap.size))) (w.alloc (.map #[] 0)):=by
  simp only [execOp,J,Sem.run_bind,Option.map_none]
  rfl
 unfold Oper.wp
 rw [f,Oper.upon_value,F]
 have s:=L.new_ (hdr:=.map (some w.heap.size)) (o:=.map #[] 0) (k:=.mp []) I B C fun D' M=>⟨w.heap.size,#[],0,rfl,fun x=>Iff.rfl,zDP w _,rfl,by simp⟩
 refine k r hr _ _ ⟨_,_,s.put (zCS h) ?_⟩
 have:R (upd σ n (.map (some w.heap.size))) (w.alloc (.map #[] 0)) (Dof G.X (upd φ n fun b=>b=w.heap.size) (w.alloc (.map #[] 0)) ((n,.mp [])::S')) (.own n) (upd σ n (.map (some w.heap.size)) n):=.own (by rw [zAw];rfl)
 rw [zAw] at this
 exact this
theorem zUP {w:World} {n b:Nat} {u:Value} (h:R σ w D (.own n) u) (k : σ n=.map (some b)):u=.map (some b):=by
 cases h with
 | own _=>exact k
 | d f=>cases f
theorem zVK (key : κ -> Value) (s : ν -> PV) (l:List (κ × ν)) {args:Array Operand} {tys:Array TypeId} {t kt C:TypeId} {x:Operand} {n:Nat} (W:o.op=.call ⟨.builtin .len,args,tys⟩) (h1:args.toList=[x]) (h2:tys.toList=[t]) (Q:G.P.underlying t=some (.map kt C))
  (hx:ev E x=some (.own n)) (L:lkS S n=some (.mp (l.map fun p=>(key p.1,s p.2)))) {σ : Nat->Value} {φ : Nat->Nat->Prop} {w:World} {a:Act} (B:Pre' G E S a w σ φ):zCG G S o σ φ a w (.v (.int .i64 (l.length:Nat))):=by
 have f:=zAl L
 obtain ⟨b,es,cl,F,g2,H,I,g5⟩:=B.inv.ok n _ f
 have k:=zUP (zAm B.env hx) F
 have J:args = #[x]:=by cases args;simp_all
 have X:tys = #[t]:=by cases tys;simp_all
 subst J X
 have h:(execOp a.eval o).run G.P w=.ok (.value (.int .i64 (l.length:Nat))) w:=by
  have M:(Builtin.len_ #[t] o.type #[.map (some b)]).run G.P w=.ok (.int .i64 (l.length:Nat)) w:=by
   simp [Builtin.len_,run_underlying Q,MapKept.run_getObj_map H,Result.andThen,goInt,I]
  simp [execOp,W,resolve,invoke,builtin,k,M,Result.andThen]
 unfold zCG
 rw [h]
 exact ⟨rfl,.d (.v rfl)⟩
theorem zPa (key : κ -> Value) (b : ν -> PV) (l:List (κ × ν)) {args:Array Operand} {tys:Array TypeId} {t M h:TypeId} {x:Operand} {n d:Nat} (I:G.P.underlying t=some (.map M h)) (J:o.op=.call ⟨.builtin .len,args,tys⟩) (s:args.toList=[x]) (B:tys.toList=[t])
  (H:gE all E o=some true) (hx:ev E x=some (.own n)) (C:lkS S n=some (.mp (l.map fun p=>(key p.1,b p.2)))) (F:o.dst=some d) (f:lB d G.fn.ntmps=true) (k:PO G m all rest K ((d,.v (.int .i64 (l.length:Nat)))::E) S):PO G m all (o::rest) K E S :=
 zDu H (fun _ _ _ _ L=>zVK key b l J s B I hx C L) F f k
theorem zWp [DecidableEq κ] {T:Tab G.P} {o:Oper} {dd:TypeDesc} {key : κ -> Value} (Q:KeyEnc dd key) (f : ν -> PV) (l:List (κ × ν)) (k : κ) (z : ν) {t kt W:TypeId} {x ix:Operand} {n:Nat} {M:Value} (ho:o.op=.lookup t x ix false) (hm:G.P.underlying t=some (.map kt W)) (hk:G.P.underlying kt=some dd)
  (hx:ev E x=some (.own n)) (hi:ev E ix=some (.v (key k))) (hb:lkS S n=some (.mp (l.map fun p=>(key p.1,f p.2)))) (hz:lku T.zeros W=some M) (hzv:f z=.v M) (hfl:zSy M=true) {σ : Nat->Value} {φ : Nat->Nat->Prop} {w:World} {a:Act} (hp:Pre' G E S a w σ φ):zCG G S o σ φ a w (f (zLJ l k z)):=by
 have I:=zAl hb
 obtain ⟨b,h,cl,g1,g2,g3,g4,g5⟩:=hp.inv.ok n _ I
 have L:=zUP (zAm hp.env hx) g1
 obtain ⟨H,_⟩:=(zAm hp.env hi).flat_inv
 have C:=zGC Q k l h.toList 0 (by simpa using g4) fun j e x' h1 h2=>(g5 j e _ (by simpa using h1) (by rw [lK,h2];rfl)).1
 have hz':=T.hzeros _ (zAc hz)
 have hzr:(zeroValue W).run G.P w=.ok M w:=by
  obtain ⟨inf,F,hzi⟩:=dX.1 hz'
  simp [zeroValue,typeInfo,F,hzi]
 have B:=run_checkKey (P:=G.P) (w:=w) hk (Q.isKey k) h.isEmpty 9999
 have J:∃u,(execOp a.eval o).run G.P w=.ok (.value u) w/\RD w (Dof G.X φ w S) (f (zLJ l k z)) u:=by
  unfold zLJ
  cases hj:zH2 l k with
  | none =>
   rw [hj] at C
   have s:=run_findKey (w:=w) hk C
   refine ⟨M,?_,by simp only;rw [hzv];exact .v hfl⟩
   simp [execOp,ho,L,H,Instr.lookup,run_underlying hm,MapKept.run_getObj_map g3,B,s,hzr,Result.andThen]
  | some j =>
   rw [hj] at C
   obtain ⟨v,hv⟩:=zJB hj
   have hjl:j<h.size:=by rw [g4,lL];exact (lF.1 hv).1
   have he:h[j]? = some h[j]:=dC hjl
   simp only [show h.toList[j]? = some h[j] by simp,lW,dA] at C
   have s:=run_findKey (w:=w) hk C
   refine ⟨h[j].val,?_,?_⟩
   ·simp [execOp,ho,L,H,Instr.lookup,run_underlying hm,MapKept.run_getObj_map g3,B,s,Result.andThen]
   ·simp only [hv,dY]
    exact (g5 j _ _ he (by rw [lK,hv];rfl)).2
 obtain ⟨u,h1,h2⟩:=J
 unfold zCG
 rw [h1]
 exact ⟨rfl,.d h2⟩
theorem zVo [DecidableEq κ] {T:Tab G.P} {o:Oper} {rest:List Oper} {C:TypeDesc} {key : κ -> Value} (Q:KeyEnc C key) (b : ν -> PV) (l:List (κ × ν)) (k : κ) (z : ν) {t I F:TypeId} {x H:Operand} {n d:Nat} {B:Value} (X:G.P.underlying t=some (.map I F)) (W:G.P.underlying I=some C) (ho:o.op=.lookup t x H false)
  (M:gE all E o=some true) (hx:ev E x=some (.own n)) (hi:ev E H=some (.v (key k))) (J:lkS S n=some (.mp (l.map fun p=>(key p.1,b p.2)))) (hz:lku T.zeros F=some B) (s:b z=.v B) (f:zSy B=true) (L:o.dst=some d) (h:lB d G.fn.ntmps=true)
  (kk:PO G m all rest K ((d,b (zLJ l k z))::E) S):PO G m all (o::rest) K E S :=
 zDu M (fun _ _ _ _ hp=>zWp (T:=T) Q b l k z ho X W hx hi J hz s f hp) L h kk
def datQ:PV->Bool
 | .agg cs=>cs.all zXq
 | p=>zXq p
theorem R.toRDQ {w:World} {p:PV} {u:Value} (r:R σ w D p u) (h:datQ p=true):RD w D p u:=by
 cases p with
 | agg cs =>
  cases r with
  | d f=>exact f
  | agg k hi=>exact .agg k fun i c u b s=>(hi i c u b s).toRD (lR.1 h c (lU b))
 | _=>exact r.toRD h
theorem zFy [DecidableEq κ] {o:Oper} {rest:List Oper} {dd:TypeDesc} {key : κ -> Value} (Q:KeyEnc dd key) (B : ν -> PV) (l:List (κ × ν)) (k : κ) (v : ν) {t kt et:TypeId} {x ix y:Operand} {n:Nat} {S':zAC} (hm:G.P.underlying t=some (.map kt et)) (hk:G.P.underlying kt=some dd) (ho:o.op=.mapUpdate t x ix y)
  (hg:gE all E o=some true) (hx:ev E x=some (.own n)) (hi:ev E ix=some (.v (key k))) (hy:ev E y=some (B v)) (hdat:datQ (B v)=true) (hb:lkS S n=some (.mp (l.map fun p=>(key p.1,B p.2)))) (hd:o.dst=none)
  (hS:zOD n (.mp ((zG9 l k v).map fun p=>(key p.1,B p.2))) S=some S') (kk:PO G m all rest K E S'):PO G m all (o::rest) K E S:=by
 refine zGT hg fun r hr a w ⟨σ,φ,W⟩=>?_
 have F:=zAl hb
 obtain ⟨b,C,cl,g1,g2,g3,g4,g5⟩:=W.inv.ok n _ F
 have hxv:=zUP (zAm W.env hx) g1
 obtain ⟨hiv,_⟩:=(zAm W.env hi).flat_inv
 have hyv:=(zAm W.env hy).toRDQ hdat
 have hf:=zGC Q k l C.toList 0 (by simpa using g4) fun j e x' h f=>(g5 j e _ (by simpa using h) (by rw [lK,f];rfl)).1
 have hck:=run_checkKey (P:=G.P) (w:=w) hk (Q.isKey k) false 9999
 have hbl:b<w.heap.size:=(W.inv.lt b ⟨n,_,F,(g2 b).2 rfl⟩).1
 have key2:∃s H,(execOp a.eval o).run G.P w=.ok .skip { w with heap:=w.heap.setIfInBounds b (.map s H) }/\s.size=(zG9 l k v).length /\
   ∀(i:Nat) (e:MapEntry) (p : κ × ν),s[i]? = some e->(zG9 l k v)[i]? = some p->e.key=key p.1/\RD w (Dof G.X φ w S) (B p.2) e.val:=by
  have old:∀(i:Nat) (e:MapEntry) (p : κ × ν),C[i]? = some e->l[i]? = some p->e.key=key p.1/\RD w (Dof G.X φ w S) (B p.2) e.val:=fun i e p h f=>g5 i e _ h (by rw [lK,f];rfl)
  unfold zG9
  cases hj:zH2 l k with
  | none =>
   rw [hj] at hf
   have J:=run_findKey (w:=w) hk hf
   refine ⟨C.push ⟨key k,a.eval y,cl⟩,cl+1,?_,by simpa using g4,fun i e p h f=>?_⟩
   ·simp [execOp,ho,hxv,hiv,Instr.mapUpdate,run_underlying hm,MapKept.run_getObj_map g3,MapKept.run_setObj_map _ g3,hck,J,Result.andThen]
   ·simp only at f
    have I:C.size=l.length:=by simpa using g4
    by_cases hi':i<l.length
    ·rw [lN hi'] at f
     rw [dZ (by omega)] at h
     exact old i e p (by rw [<- h];exact dC (by omega)) f
    ·rw [cC (by omega)] at f
     have hi0:i=C.size:=by
      have:=(lF.1 f).1
      simp at this;omega
     subst hi0
     rw [Array.getElem?_push_size] at h
     simp at h;subst h
     rw [I,Nat.sub_self] at f
     simp at f;subst f
     exact ⟨rfl,hyv⟩
  | some j =>
   rw [hj] at hf
   obtain ⟨v0,hv⟩:=zJB hj
   have I:C.size=l.length:=by simpa using g4
   have hjl:j<C.size:=by rw [I];exact (lF.1 hv).1
   have M:C[j]? = some C[j]:=dC hjl
   simp only [show C.toList[j]? = some C[j] by simp,lW,dA] at hf
   have J:=run_findKey (w:=w) hk hf
   have hek:=(old j _ _ M hv).1
   have hst:(Instr.keyThatStays (key k) (key k)).run G.P w=.ok (key k) w:=run_keyThatStays (d:=dd) (Q.isKey k)
   refine ⟨C.modify j fun e=>⟨key k,a.eval y,e.born⟩,cl,?_,by simp [I],fun i e p h f=>?_⟩
   ·simp [execOp,ho,hxv,hiv,Instr.mapUpdate,run_underlying hm,MapKept.run_getObj_map g3,MapKept.run_setObj_map _ g3,hck,J,M,hek,hst,Result.andThen]
   ·simp only at f
    rw [d9] at h
    by_cases L:j=i
    ·subst L
     rw [iP rfl,M] at h
     simp at h;subst h
     rw [gB (by omega)] at f
     simp at f;subst f
     exact ⟨rfl,hyv⟩
    ·rw [iN L] at h
     rw [gN L] at f
     exact old i e p h f
 obtain ⟨s,H,hrun,h,f⟩:=key2
 unfold Oper.wp
 rw [hrun,Oper.upon_skip,hd]
 refine kk r hr _ _ ⟨σ,φ,W.turn (w':={ w with heap:=w.heap.setIfInBounds b (.map s H) }) F hS (by simp) (fun c hc=>?_) rfl rfl rfl fun D' hD=>⟨b,s,H,g1,g2,?_,by simpa using h,fun i e kv M hkv=>?_⟩⟩
 ·have:c≠b:=fun e=>hc ((g2 c).2 e)
  simp [cN (Ne.symm this)]
 ·show (w.heap.setIfInBounds b _)[b]? = _
  rw [Array.getElem?_setIfInBounds_self_of_lt hbl]
 ·rw [lK] at hkv
  obtain ⟨p,hp',rfl⟩:=lI.1 hkv
  exact ⟨(f i e p M hp').1,(f i e p M hp').2.mono hD⟩
end
end
section
variable {w w':World} {a:Act} {d N n z:Nat} {ps:String} {t:TypeId} {x:Operand} {σ:Nat->Value} {D:Nat->Prop} {u v:Value} {rows:List (List PV)} {φ:Nat->Nat->Prop} {ks N1:List Nat} {rest:List Oper}
def opB (d:Nat) (op:Op) (t:TypeId) (pos:String) (after:Array Edge):Oper:={ dst:=some d,op,type:=t,pos,after,guard:=none }
def ed (n:Nat):Edge:={ on:=n,ground:=.data }
def ep (n:Nat):Edge:={ on:=n,ground:=.phase }
def back0 (tS tI:TypeId):List Oper :=
 [opB 4 (.load tS (.tmp 1)) tS "iter.go:28" #[], opB 5 (.call { callee := .builtin .len, args := #[.tmp 4], argTypes := #[tS] }) tI "iter.go:28" #[ed 0],
  opB 6 (.binOp .sub tI (.tmp 5) (.const (.int .i64 1)) tI) tI "iter.go:28" #[ed 1], opB 3 (.assign (.tmp 6)) tI "iter.go:28" #[ed 2, ep 0, ep 1, ep 2]]
def back1 (tI tB:TypeId):List Oper :=
 [opB 7 (.move (.tmp 3)) tI "iter.go:28" #[], opB 8 (.binOp .geq tI (.tmp 7) (.const (.int .i64 0)) tI) tB "iter.go:28" #[ed 0]]
def back3 (tS tE tI tB tF:TypeId):List Oper :=
 [opB 11 (.move (.tmp 0)) tF "iter.go:29" #[], opB 12 (.move (.tmp 3)) tI "iter.go:29" #[], opB 13 (.load tS (.tmp 1)) tS "iter.go:29" #[], opB 14 (.move (.tmp 3)) tI "iter.go:29" #[],
  opB 15 (.indexAddr tS (.tmp 13) (.tmp 14)) 0 "iter.go:29" #[ed 2, ed 3], opB 16 (.load tE (.tmp 15)) tE "iter.go:29" #[ed 4],
  opB 17 (.call { callee := .value (.tmp 11), args := #[.tmp 12, .tmp 16], argTypes := #[tI, tE] }) tB "iter.go:29" #[ed 0, ed 1, ed 5], opB 18 (.unOp .not tB (.tmp 17)) tB "iter.go:29" #[ed 6]]
def back2 (tI:TypeId):List Oper :=
 [opB 9 (.move (.tmp 3)) tI "iter.go:28" #[], opB 10 (.binOp .sub tI (.tmp 9) (.const (.int .i64 1)) tI) tI "iter.go:28" #[ed 0], opB 3 (.assign (.tmp 10)) tI "iter.go:28" #[ed 1, ep 0, ep 1]]
def zTq (tS tE tI tB tF:TypeId):Code :=
 .seq (.region 0 (back0 tS tI).toArray false) (.block 0 (.loop (.seq (.seq (.region 1 (back1 tI tB).toArray false) (.cond (.tmp 8) .skip (.exit 0)))
  (.seq (.block 1 (.seq (.region 3 (back3 tS tE tI tB tF).toArray false) (.cond (.tmp 18) .ret .skip))) (.region 2 (back2 tI).toArray false)))))
structure Has (N:Nat) (E:List (Nat×Value)) (a:Act):Prop where
 size:a.tmps.size=N
 defers:a.defers=[]
 has:∀t v,lku E t=some v->a.tmps[t]? = some v
theorem Has.eval {E:List (Nat×Value)} (h:Has N E a) {t:Nat} {v:Value} (b:lku E t=some v):a.eval (.tmp t)=v:=by
 have:=h.has t v b
 simp only [Act.eval,cL,this,cM]
theorem Has.put {E:List (Nat×Value)} (h:Has N E a) {d:Nat} {v:Value} (f:d<N):Has N ((d,v)::E) (a.put (some d) v):=by
 refine ⟨by simp [Act.put,h.size],h.defers,fun t u b=>?_⟩
 simp only [lku] at b
 simp only [Act.put]
 by_cases e:d=t
 ·subst e;simp at b;subst b;simp [h.size,f]
 ·simp only [zBa e,cond_false] at b
  rw [cN e];exact h.has t u b
theorem Has.inv {E:List (Nat×Value)} (h:Has N E a) {σ : Nat->Value} {w:World} {D:Nat->Prop} {t:Nat} {v:Value} {p:PV} (f:lku E t=some v) (hr:R σ w D p v):zQV σ w D [(t,p)] a.tmps:=by
 intro k s b
 simp only [lk] at b
 by_cases e:t=k
 ·subst e;simp at b;subst b;exact ⟨v,h.has t v f,hr⟩
 ·simp [zBa e] at b
theorem zIx {ro:Option Nat} {P:Program} {all:Array Oper} {Q:Exit->Act->World->Prop} {B:Op} {af:Array Edge} {E:List (Nat×Value)} (v:Value)
  (h:Has N E a) (b:(execOp a.eval (opB d B t ps af)).run P w=.ok (.value v) w) (f:d<N) (s:zGR B=true) (k:∀C,Has N ((d,v)::E) C->wpListIn (FR ro) n P all Q rest C w):wpListIn (FR ro) n P all Q (opB d B t ps af::rest) a w:=by
 refine wpListIn_plain rfl fun K F=>⟨fun _ _=>trivial,?_⟩
 rw [Oper.semAt_eq _ _ _ (zM3 s),b,Oper.uponIn_value]
 exact F _ _ (k _ (h.put f))
theorem zXx {P:Program} {T:Tab P} {o:Oper} {E:Env} {p:PV} (B:∀b,D b->b<w.heap.size) (C:zQV σ w D E a.tmps) (h:ev1 T E [] o.op=some p) :
  ∃u,(execOp a.eval o).run P w=.ok (.value u) w/\R σ w D p u:=by
 have hi:Inv (fun b=>b<w.heap.size/\¬D b) σ (fun _ _=>False) w [] :=
  ⟨by simp,fun _ h=>h.1,fun _ ⟨_,_,h,_⟩=>by simp at h,fun _ _ _ _ h=>by simp at h,fun _ _ h=>by simp at h⟩
 obtain ⟨u,k,s⟩:=zat (T:=T) hi (fun t q H=>let ⟨u,I,hr⟩:=C t q H;⟨u,I,hr.mono fun b f=>⟨⟨B b f,fun h=>h.2 f,fun _ _ h=>by simp at h⟩,rfl⟩⟩) h
 exact ⟨u,k,s.mono fun b f=>⟨eB fun F=>f.2.1 ⟨f.1,F⟩,rfl⟩⟩
section back
variable {P:Program} {T:Tab P} {g:FuncId} {fn:Func} {tS tE tI tB tF:TypeId} {α : Type} {enc : α -> List PV} {enc' : α -> PV} {e size by_:Nat} {full:Bool}
def BackJ (P:Program) (tS:TypeId) (enc : α -> List PV) (enc' : α -> PV) (size:Nat) (full:Bool) (xs:List α) (l s:Nat) (J:Nat->World->Prop):Prop :=
 ∀k W,J k W->∃(D:Nat->Prop) (u:Value),(∀b,D b->b<W.heap.size)/\(Instr.loadAt tS (.pointer (some ⟨s,0,none⟩))).run P W=.ok u W/\RD W D (.sl size full (xs.map enc)) u /\
  ∀f y v,k=f+1->xs[f]? = some y->R (fun _=>undef) W D (enc' y) v->YieldAt Fence.wide 0 P l #[.int .i64 (f:Nat),v] W fun e h=>e=.returned (.bool true)/\J f h
theorem zYh {tS:TypeId} {af:Array Edge} (hx:a.eval x=v) (h:(Instr.loadAt tS v).run P w=.ok u w):(execOp a.eval (opB d (.load tS x) t ps af)).run P w=.ok (.value u) w:=by
 simp [execOp,opB,hx,h]
theorem zO0 {af:Array Edge} (hx:a.eval x=v):(execOp a.eval (opB d (.move x) t ps af)).run P w=.ok (.value v) w:=by
 simp [execOp,opB,hx]
theorem zTK {af:Array Edge} (hx:a.eval x=v):(execOp a.eval (opB d (.assign x) t ps af)).run P w=.ok (.value v) w:=by
 simp [execOp,opB,hx]
theorem zYi {tI:TypeId} {af:Array Edge} (hx:a.eval x=.int .i64 (n:Nat)) (f:n<=maxLen):(execOp a.eval (opB d (.binOp .sub tI x (.const (.int .i64 1)) tI) t ps af)).run P w=.ok (.value (.int .i64 ((n:Int) - 1))) w:=by
 have:IntKind.i64.wrap ((n:Int) - 1)=(n:Int) - 1:=zcr (by simp only [lo,hi];have:maxLen=9223372036854775807:=rfl;omega)
 have b:a.eval (.const (.int .i64 1))=.int .i64 1:=rfl
 simp [execOp,opB,hx,b,binOp,Op.intArith,zG8,this]
theorem zg2 {n:Int} {tI:TypeId} {af:Array Edge} (hx:a.eval x=.int .i64 n):(execOp a.eval (opB d (.binOp .geq tI x (.const (.int .i64 0)) tI) t ps af)).run P w=.ok (.value (.bool (decide (0<=n)))) w:=by
 have b:a.eval (.const (.int .i64 0))=.int .i64 0:=rfl
 simp [execOp,opB,hx,b,binOp,Op.intCmp,zG8]
theorem zg3 {b:Bool} {tI:TypeId} {af:Array Edge} (hx:a.eval x=.bool b):(execOp a.eval (opB d (.unOp .not tI x) t ps af)).run P w=.ok (.value (.bool !b)) w:=by
 simp [execOp,opB,hx,Op.unary]
theorem zeW {T:Tab P} {E:List (Nat×Value)} {t:Nat} {ty:TypeId} {af:Array Edge} {z:Nat×Nat×Nat} (h:Has N E a) (B:lku E t=some u) (s:∀b,D b->b<w.heap.size) (hr:RD w D (.sl size full rows) u)
  (hz:lku T.els tS=some z):(execOp a.eval (opB d (.call { callee:=.builtin .len,args := #[.tmp t],argTypes := #[tS] }) ty ps af)).run P w=.ok (.value (.int .i64 (rows.length:Nat))) w:=by
 obtain ⟨v,f,k⟩:=zXx (P:=P) (T:=T) (o:=opB d (.call { callee:=.builtin .len,args := #[.tmp t],argTypes := #[tS] }) ty ps af) s (h.inv (σ := fun _=>undef) B (.d hr)) (p:=.v (.int .i64 (rows.length:Nat))) (by simp [ev1,opB,ev,lk,hz,lenE])
 obtain ⟨rfl,_⟩:=k.flat_inv
 exact f
theorem run_at {T:Tab P} {xs:List α} {E:List (Nat×Value)} {t t2 i:Nat} {ty:TypeId} {af:Array Edge} {y : α} (h:Has N E a) (X:lku E t=some u) (H:lku E t2=some (.int .i64 (i:Nat)))
  (hr:RD w D (.sl size full (xs.map enc)) u) (hz:lku T.els tS=some (e,size,by_)) (hy:xs[i]? = some y) :
  ∃v,(execOp a.eval (opB d (.indexAddr tS (.tmp t) (.tmp t2)) ty ps af)).run P w=.ok (.value v) w/\RD w D (.el (enc y) 0) v:=by
 obtain ⟨B,inf,k,F,_⟩:=zBF (T.hels _ (zAc hz))
 have hx:=h.eval X
 have hi:=h.eval H
 have b:(xs.map enc)[i]? = some (enc y):=by simp [hy]
 have J:i<(xs.map enc).length:=(lF.1 b).1
 generalize C:xs.map enc=rows at *
 cases hr with
 | nil=>simp at b
 | sl f h1 h2 h3 L h5 M Q =>
  rename_i I cap
  have W:(i:Int)<(rows.length:Int):=by omega
  refine ⟨.pointer (some (I.add (i*size))),?_,?_⟩
  ·simp [execOp,opB,hx,hi,Instr.indexAt,asIntOf,run_underlying B,sizeOf,typeInfo,k,F]
   intro hh;omega
  ·have:=RD.el (w:=w) (D:=D) (row:=enc y) (off:=0) (a:=I.add (i*size)) (fun j=>f (i*size+j)) (by rw [zMZ];exact L)
    (fun j c s=>by rw [zPF];exact M _ _ _ _ b s) (fun j c s=>Q _ _ _ _ b s)
   simpa [Addr.add] using this
theorem zcI (hr:RD w D (.sl size full rows) u):rows.length<=maxLen:=by
 cases hr with
 | nil=>exact cG _
 | sl f b h=>exact Nat.le_trans b h
theorem zeg {E:List (Nat×Value)} {t:Nat} {x y z:Value} (h:lku [(0,x),(1,y),(3,z)] t=some v) (s:lku E 0=some x:=by rfl) (B:lku E 1=some y:=by rfl) (C:lku E 3=some z:=by rfl):lku E t=some v:=by
 by_cases b:t=0
 ·subst b;exact s.trans h
 by_cases f:t=1
 ·subst f;exact B.trans h
 by_cases k:t=3
 ·subst k;exact C.trans h
 simp only [lku,zBa (Ne.symm b),zBa (Ne.symm f),zBa (Ne.symm k),cond_false] at h
 cases h
theorem zfj (hf:P.funcs[g]? = some fn) (hb:fn.body=some (zTq tS tE tI tB tF)) (hn:fn.ntmps=19) (hres:fn.results = #[]) (ht:lku T.els tS=some (e,size,by_))
  (hld:∀y,ev1 T [(15,.el (enc y) 0)] [] (.load tE (.tmp 15))=some (enc' y)) {xs:List α} {l I:Nat} {J:Nat->World->Prop} (hJ:BackJ P tS enc enc' size full xs l I J) {w:World} (h0:J xs.length w) :
  CallsIn Fence.wide 1 P g #[.func (.yield l) #[] #[],.pointer (some ⟨I,0,none⟩)] w fun e W'=>(∃v,e=.returned v)/\J 0 W':=by
 refine callsIn_of_wp (F:=FR none) hf hb trivial ?_
 have L:Has 19 [(0,.func (.yield l) #[] #[]),(1,.pointer (some ⟨I,0,none⟩))] { tmps := #[.func (.yield l) #[] #[],.pointer (some ⟨I,0,none⟩)]++dQ (fn.ntmps - 2) undef,defers:=[] }:=by
  refine ⟨by simp [hn],rfl,fun t v h=>?_⟩
  have hz:t=0\/t=1:=by
   by_cases e0:t=0
   ·exact .inl e0
   ·by_cases e1:t=1
    ·exact .inr e1
    ·simp only [lku,zBa (Ne.symm e0),zBa (Ne.symm e1),cond_false] at h;cases h
  rcases hz with rfl | rfl
  ·cases h;rw [eC (by simp)];rfl
  ·cases h;rw [eC (by simp)];rfl
 generalize ({ tmps := #[.func (.yield l) #[] #[],.pointer (some ⟨I,0,none⟩)]++dQ (fn.ntmps - #[Value.func (.yield l) #[] #[],.pointer (some ⟨I,0,none⟩)].size) undef,defers:=[] }:Act)=a at *
 have hfin:∀a W,a.defers=[]->J 0 W->bodyPost P fn (fun e W'=>(∃v,e=Ending.returned v)/\J 0 W') .normal a W:=fun a W M f=>⟨M,_,results_none hres _ _ _,⟨_,rfl⟩,f⟩
 have back:∀(k:Nat) (a:Act),k<=xs.length->Has 19 [(0,.func (.yield l) #[] #[]),(1,.pointer (some ⟨I,0,none⟩)),(3,.int .i64 ((k:Int) - 1))] a->∀W,J k W ->
   (Code.loop (.seq (.seq (.region 1 (back1 tI tB).toArray false) (.cond (.tmp 8) .skip (.exit 0))) (.seq (.block 1 (.seq (.region 3 (back3 tS tE tI tB tF).toArray false) (.cond (.tmp 18) .ret .skip))) (.region 2 (back2 tI).toArray false)))).wpIn (FR none) 1 P
    (Exit.inBlock 0 (bodyPost P fn (fun e W'=>(∃v,e=Ending.returned v)/\J 0 W'))) a W:=by
  intro k a hk L W hj
  refine wpIn_loop (fun a w=>∃k:Nat,k<=xs.length/\Has 19 [(0,.func (.yield l) #[] #[]),(1,.pointer (some ⟨I,0,none⟩)),(3,.int .i64 ((k:Int) - 1))] a/\J k w) (fun a _=>(match a.eval (.tmp 3) with | .int _ n=>(n+1).toNat | _=>0)) ⟨k,hk,L,hj⟩ ?_
  rintro a w ⟨k,hk,L,hj⟩
  have hm:(match a.eval (.tmp 3) with | .int _ n=>(n+1).toNat | _=>0)=k:=by
   rw [L.eval (t:=3) rfl];simp only [];omega
  rw [hm]
  obtain ⟨D,u,hD,hu,s,H⟩:=hJ k w hj
  have b:=zcI s
  rw [lL] at b
  refine wpIn_seq (wpIn_seq (wpIn_region_lit ?_))
  refine zIx _ L (zO0 (L.eval (t:=3) rfl)) (by omega) rfl fun a1 M=>?_
  refine zIx _ M (zg2 (M.eval (t:=7) rfl)) (by omega) rfl fun a2 f=>?_
  refine wpListIn_nil ?_
  cases k with
  | zero =>
   refine wpIn_cond_false (f.eval (t:=8) rfl) (wpIn_exit ?_)
   exact hfin _ _ f.defers hj
  | succ k' =>
   refine wpIn_cond_true (by rw [f.eval (t:=8) rfl];simp) (wpIn_skip ?_)
   refine wpIn_seq (wpIn_block (wpIn_seq (wpIn_region_lit ?_)))
   have e3:((k'+1:Nat):Int) - 1=(k':Nat):=by omega
   rw [e3] at f
   obtain ⟨y,hy⟩:∃y,xs[k']? = some y:=⟨_,lC (by omega)⟩
   refine zIx _ f (zO0 (f.eval (t:=0) rfl)) (by omega) rfl fun a3 h3=>?_
   refine zIx _ h3 (zO0 (h3.eval (t:=3) rfl)) (by omega) rfl fun a4 h4=>?_
   refine zIx _ h4 (zYh (h4.eval (t:=1) rfl) hu) (by omega) rfl fun a5 h5=>?_
   refine zIx _ h5 (zO0 (h5.eval (t:=3) rfl)) (by omega) rfl fun a6 h6=>?_
   obtain ⟨v7, r7, d7⟩ := run_at (T := T) (d := 15) (ty := 0) (ps := "iter.go:29") (af := #[ed 2, ed 3]) h6 (t := 13) rfl (t2 := 14) (i := k') rfl s ht hy
   refine zIx _ h6 r7 (by omega) rfl fun a7 h7=>?_
   obtain ⟨v8, r8, d8⟩ := zXx (P := P) (T := T) (o := opB 16 (.load tE (.tmp 15)) tE "iter.go:29" #[ed 4]) (p := enc' y) hD (h7.inv (σ := fun _ => undef) (t := 15) rfl (.d d7)) (hld y)
   refine zIx _ h7 r8 (by omega) rfl fun a8 h8=>?_
   obtain ⟨fn',tm',as',bd',hyr,C⟩:=H k' y v8 rfl hy d8
   refine wpListIn_plain rfl fun K hK=>⟨fun _ _=>trivial,?_⟩
   rw [Oper.semAt_eq _ _ _ (zM3 rfl)]
   have X : (execOp a8.eval (opB 17 (.call { callee := .value (.tmp 11), args := #[.tmp 12, .tmp 16], argTypes := #[tI, tE] }) tB "iter.go:29" #[ed 0, ed 1, ed 5])).run P w = .ok (.round l fn' tm' as' bd') w := by
    have q1:=h8.eval (t:=11) rfl
    have q2:=h8.eval (t:=12) rfl
    have q3:=h8.eval (t:=16) rfl
    simp [execOp,opB,resolve,q1,q2,q3,Deferred.ofValue,invoke,hyr]
   rw [X,Oper.uponIn_round]
   refine ⟨fun h=>(by cases h),RoundIn.mono C fun e W' he=>?_⟩
   obtain ⟨rfl,hj'⟩:=he
   refine hK _ _ ?_
   have h9:=h8.put (d:=17) (v:=.bool true) (by omega)
   refine zIx _ h9 (zg3 (h9.eval (t:=17) rfl)) (by omega) rfl fun a10 Q=>?_
   refine wpListIn_nil ?_
   refine wpIn_cond_false (Q.eval (t:=18) rfl) (wpIn_skip ?_)
   refine wpIn_region_lit ?_
   refine zIx _ Q (zO0 (Q.eval (t:=3) rfl)) (by omega) rfl fun a11 h11=>?_
   refine zIx _ h11 (zYi (h11.eval (t:=9) rfl) (by omega)) (by omega) rfl fun a12 h12=>?_
   refine zIx _ h12 (zTK (h12.eval (t:=10) rfl)) (by omega) rfl fun a13 B=>?_
   refine wpListIn_nil ?_
   refine ⟨⟨k',by omega,⟨B.size,B.defers,fun t v htv=>?_⟩,hj'⟩,?_⟩
   ·refine B.has t v ?_
    exact zeg htv
   ·rw [B.eval (t:=3) rfl];simp only [];omega
 obtain ⟨D,u,hD,hu,s,_⟩:=hJ _ w h0
 have b:=zcI s
 rw [lL] at b
 refine wpIn_seq (wpIn_region_lit ?_)
 refine zIx _ L (zYh (L.eval (t:=1) rfl) hu) (by omega) rfl fun a1 M=>?_
 refine zIx _ M (zeW (T:=T) M (t:=4) rfl hD s ht) (by omega) rfl fun a2 f=>?_
 rw [lL] at f
 refine zIx _ f (zYi (f.eval (t:=5) rfl) b) (by omega) rfl fun a3 h3=>?_
 refine zIx _ h3 (zTK (h3.eval (t:=6) rfl)) (by omega) rfl fun a4 h4=>?_
 refine wpListIn_nil ?_
 refine wpIn_block (back xs.length a4 (cB _) ⟨h4.size,h4.defers,fun t v htv=>?_⟩ w h0)
 refine h4.has t v ?_
 exact zeg htv
end back
section stmt
variable {ρ : Type} {G:Ctx ρ}
theorem Pre'.over {E:Env} {S S2:zAC} {F:World} {H:Nat->Value} {s:Nat->Nat->Prop} (h:Pre' G E S a w σ φ) (hi:Inv G.X H s F S2) (f:Fr w (zCQ φ S) F)
  (I:∀n∈N1,H n = σ n) (B:∀b,zCQ s S2 b->b<w.heap.size->zCQ φ S b) (hE:∀t p,lk E t=some p->∀n∈names p,n∈N1) (hN:∀n∈G.N0,n∈N1) :
  Pre' G E S2 a F H s/\(∀b,Dof G.X φ w S b->Dof G.X s F S2 b/\F.heap[b]? = w.heap[b]?):=by
 have hD:∀b,Dof G.X φ w S b->Dof G.X s F S2 b/\F.heap[b]? = w.heap[b]? := fun b ⟨L,Q,h3⟩=>by
  have J:¬zCQ φ S b:=fun ⟨n,k,hm,C⟩=>h3 n k hm C
  have:=f.size
  exact ⟨⟨by omega,Q,fun n k hm C=>J (B b ⟨n,k,hm,C⟩ L)⟩,f.block b L J⟩
 refine ⟨⟨h.dk fun b L Q=>f.block b L Q,h.size,fun t p ht=>?_,hi,?_,fun n M=>(I n (hN n M)).trans (h.agree n M),fun b C W=>?_⟩,hD⟩
 ·obtain ⟨u,hu,hr⟩:=h.env t p ht
  exact ⟨u,hu,(hr.mono hD).agree fun n M=>I n (hE t p ht n M)⟩
 ·have:=h.fr.size
  have:=f.size
  refine ⟨f.os.trans h.fr.os,f.tape.trans h.fr.tape,f.output.trans h.fr.output,by omega,fun b hb hx=>?_⟩
  exact (f.block b (by omega) fun C=>hx (h.new b C hb)).trans (h.fr.block b hb hx)
 ·have:=h.fr.size
  exact h.new b (B b C (by omega)) W
structure Turn (z:Nat) (ks:List Nat) (w w':World):Prop where
 os:w'.os=w.os
 tape:w'.tape=w.tape
 output:w'.output=w.output
 size:w.heap.size<=w'.heap.size
 old:∀b,b<w.heap.size->b∉ks->w'.heap[b]? = w.heap[b]?
 ks:∀b∈ks,z<=b/\b<w.heap.size/\∃r:Loop,w.heap[b]? = some (.loop r)
theorem Turn.keeps (B:Turn z ks w w') {X:Nat->Prop} {σ : Nat->Value} {φ : Nat->Nat->Prop} {S:zAC} (hi:Inv X σ φ w S) :
  Inv X σ φ w' S/\(∀p u,R σ w (Dof X φ w S) p u->R σ w' (Dof X φ w' S) p u)/\∀p u,RD w (Dof X φ w S) p u->RD w' (Dof X φ w' S) p u:=by
 have nc:∀b∈ks,zP7 w.heap[b]? = false:=fun b F=>by obtain ⟨_,_,r,h⟩:=B.ks b F;rw [h];rfl
 have L:∀C v,w.cell? C=some v->w'.cell? C=some v:=fun C v f=>by
  have s:C.block∉ks:=fun s=>by obtain ⟨_,_,r,h⟩:=B.ks _ s;simp only [World.cell?,h] at f;cases f
  have hl:C.block<w.heap.size:=eB fun h=>by
   simp only [World.cell?,Array.getElem?_eq_none (Nat.le_of_not_lt h)] at f;cases f
  simp only [World.cell?,B.old _ hl s] at f ⊢
  exact f
 have J:zWN w w':=⟨L,fun b es cl f=>by
  have s:b∉ks:=fun s=>by obtain ⟨_,_,r,h⟩:=B.ks _ s;rw [h] at f;cases f
  rw [B.old _ (gZ.1 f).1 s];exact f⟩
 have hs:=B.size
 have I:∀b,Dof X φ w S b->Dof X φ w' S b:=fun b ⟨a1,W,a3⟩=>⟨by omega,W,a3⟩
 have H:∀b,zCQ φ S b->w'.heap[b]? = w.heap[b]? := fun b H=>by
  have M:=hi.plain H
  exact B.old b (hi.lt b H).1 fun s=>by have:=nc b s;unfold zP7 at this;rw [this] at M;cases M
 exact ⟨⟨hi.nodup,fun b F=>by have:=hi.xlt b F;omega,fun b h=>⟨by have:=(hi.lt b h).1;omega,(hi.lt b h).2⟩,hi.disj,
   fun n k Q=>(hi.ok n k Q).cells I J fun b F=>H b ⟨n,k,Q,F⟩⟩,fun p u hr=>hr.cells I J,fun p u hr=>hr.cells I J⟩
theorem Turn.marks {y:Nat} (s:Turn z ks w w') {ds:List Deferred} (h:DOk y ds w):DOk y ds w':=by
 obtain ⟨B,C,F,f⟩:=h
 refine ⟨B,C,F,fun b k=>⟨(f b k).1,?_⟩⟩
 rw [s.old b (gZ.1 (f b k).2).1 fun H=>by obtain ⟨_,_,r,h⟩:=s.ks b H;rw [(f b k).2] at h;cases h]
 exact (f b k).2
theorem Pre'.tick {E:Env} {S:zAC} (k:Turn G.w0.heap.size ks w w') (f:Pre' G E S a w σ φ) :
  Pre' G E S a w' σ φ := by
 obtain ⟨s,B,_⟩:=k.keeps f.inv
 refine ⟨k.marks f.defers,f.size,fun t p h=>let ⟨u,H,hr⟩:=f.env t p h;⟨u,H,B _ _ hr⟩,s,?_,f.agree,f.new⟩
 have I:=k.size
 refine ⟨k.os.trans f.fr.os,k.tape.trans f.fr.tape,k.output.trans f.fr.output,by have:=f.fr.size;omega,fun b C hx=>?_⟩
 have:=f.fr.size
 rw [k.old b (by omega) fun F=>by have:=(k.ks b F).1;omega]
 exact f.fr.block b C hx
theorem zKN {l:Nat} {r:Loop} {o:Obj} (h:w.heap[l]? = some (.loop r)) (hz:z<=l):Turn z [l] w (w.putObj l o) :=
 ⟨rfl,rfl,rfl,by simp,fun b _ f=>World.putObj_heap_other fun e=>f (by simp [e]),fun b f=>by
  simp only [List.mem_singleton] at f;subst f;exact ⟨hz,(gZ.1 h).1,r,h⟩⟩
theorem Pre'.unbar {X':Nat->Prop} {E:Env} {S:zAC} (s:∀b,G.X b->X' b) (f:Pre' { G with X:=X' } E S a w σ φ):Pre' G E S a w σ φ := by
 have C:∀b,Dof X' φ w S b->Dof G.X φ w S b:=fun b ⟨H,I,J⟩=>⟨H,fun h=>I (s b h),J⟩
 exact ⟨f.defers,f.size,fun t p h=>let ⟨u,M,hr⟩:=f.env t p h;⟨u,M,hr.mono fun b B=>⟨C b B,rfl⟩⟩,
  ⟨f.inv.nodup,fun b B=>f.inv.xlt b (s b B),fun b F=>⟨(f.inv.lt b F).1,fun h=>(f.inv.lt b F).2 (s b h)⟩,f.inv.disj,fun n k L=>(f.inv.ok n k L).mono C⟩,f.fr,f.agree,f.new⟩
theorem fn_loc {g:Nat} (h:R σ w D (.fn (.func g) [] [.loc n 0]) u):∃b,zfF (σ n)=some b/\u=.func (.func g) #[] #[.pointer (some ⟨b,0,none⟩)]:=by
 cases h with
 | d h=>cases h
 | fn k s F f =>
  rename_i us C
  match us,C,k,s,f with
  | [],[v],_,_,f =>
   have:=f 0 _ _ rfl rfl
   cases this with
   | d h=>cases h
   | loc B=>exact ⟨_,B,rfl⟩
def zUH (N1:List Nat) (E:Env):Bool:=E.all fun x=>(names x.2).all fun n=>N1.any (lA n)
theorem zS4 {E:Env} (h:zUH N1 E=true) {t:Nat} {p:PV} (b:lk E t=some p):∀n∈names p,n∈N1:=by
 have f:(t,p)∈E:=by
  clear h
  induction E with
  | nil=>simp [lk] at b
  | cons x E B =>
   obtain ⟨k,q⟩:=x
   simp only [lk] at b
   by_cases e:k=t
   ·subst e;simp at b;subst b;simp
   ·simp only [zBa e,cond_false] at b;exact lG _ (B b)
 have:=lR.1 h _ f
 intro n s
 exact zBE.1 (lR.1 this n s)
theorem zKs {o:Obj} {b:Nat} (h:b<w.heap.size):(w.alloc o).heap[b]? = w.heap[b]? := by
 show (w.heap.push o)[b]? = _
 rw [dZ h];simp [h]
theorem zYY {T:Tab G.P} {α β : Type} {enc : α -> List PV} {enc' : α -> PV} {e size by_:Nat} {full:Bool} {g:FuncId} {fn:Func} {tS tE tI tB tF:TypeId} {E E0:Env} {S:zAC} {K:List (Kont ρ)} {xs:List α} 
  (M:Nat -> β -> Option ρ) (Sf : β -> zAC) (N1:List Nat) (E1:Nat -> α -> Env) (S1:Nat -> α -> β -> zAC) {gop:Operand} {t1 t2:Tmp} {ida idb idr n:Nat} {opsA opsB:List Oper} {x0 : β}
  (hf:G.P.funcs[g]? = some fn) (H:fn.body=some (zTq tS tE tI tB tF)) (hn:fn.ntmps=19) (hres:fn.results = #[]) (hcl:zAo G.P g=true) (ht:lku T.els tS=some (e,size,by_)) (hty:lku T.tys tS=some (false,1))
  (hld:∀y,ev1 T [(15,.el (enc y) 0)] [] (.load tE (.tmp 15))=some (enc' y)) (hdat:∀y,zXq (enc' y)=true)
  (hg:ev E gop=some (.fn (.func g) [] [.loc n 0])) {ty:Nat} (hbx:lkS S n=some (.box ty [.sl size full (xs.map enc)]))
  (hE0:zOO E0 E) (hN:zUH N1 E0=true) (hN0:zOG G.N0 N1=true) (hS0:zGN (Sf x0) S) (hSn:zA2 ((Sf x0).map (·.1))=true) (hnS:(Sf x0).any (fun x=>lA n x.1)=false)
  (hlt1:lB t1 G.fn.ntmps=true) (hlt2:lB t2 G.fn.ntmps=true) (hdA:opsA.all (fun o=>zGR o.op)=true) (hdB:opsB.all (fun o=>zGR o.op)=true)
  (hA:∀(k:Nat) (y : α) (x : β),xs[k]? = some y->∀w0 X X0 σ0 hl ro,PO (⟨G.P,G.fn,w0,X,X0,σ0,N1,fun _ _ _=>True,G.dz,G.L,hl,ro⟩:Ctx Unit) (some ()) opsA.toArray opsA [.iter fun _ a w=>Pre (⟨G.P,G.fn,w0,X,X0,σ0,N1,fun _ _ _=>True,G.dz,G.L,hl,ro⟩:Ctx Unit) (E1 k y) (S1 k y x) a w]
   ((t2,enc' y)::(t1,.v (.int .i64 (k:Nat)))::E0) (Sf x))
  (hB:∀(k:Nat) (y : α) (x : β),xs[k]? = some y->∀w0 X X0 σ0 hl ro,PO (⟨G.P,G.fn,w0,X,X0,σ0,N1,fun _ _ _=>True,G.dz,G.L,hl,ro⟩:Ctx ρ) (M (k+1) x) opsB.toArray opsB [.iter (zXg (⟨G.P,G.fn,w0,X,X0,σ0,N1,fun _ _ _=>True,G.dz,G.L,hl,ro⟩:Ctx ρ) (M k) (fun _=>[]) Sf)] (E1 k y) (S1 k y x))
  (hend:∀x,PN G (M 0 x) K E0 (Sf x)) (hz:G.dz=G.w0.heap.size+1:=by rfl) (hro:G.ro=none:=by rfl) :
  PW G (M xs.length x0) (.rangeFunc gop #[t1,t2] (.region ida opsA.toArray false) (.block idb (.region idr opsB.toArray false))) K E S:=by
 intro r hr a w ⟨σ,φ,hp⟩
 obtain ⟨bB,hbB,hgv⟩:=fn_loc (zAm hp.env hg)
 have hSS:zWU (Sf x0) S:=zF0 hS0 hSn
 rcases hp.inv.ok n _ (zAl hbx) with hbk | hw
 rotate_left
 ·rw [hw.noP] at hbB;cases hbB
 obtain ⟨b',us,hσn,hφn,hul,⟨fr0,zQP,hfr0⟩,hcr⟩:=hbk
 have:b'=bB:=by rw [zQh hσn] at hbB;simpa using hbB
 subst this
 obtain ⟨u0,rfl⟩:∃u0,us=[u0]:=by
  match us,hul with
  | [u],_=>exact ⟨u,rfl⟩
 have hu0:RD w (Dof G.X φ w S) (.sl size full (xs.map enc)) u0:=(hcr 0 _ _ rfl rfl).toRD rfl
 let X':Nat->Prop:=fun b=>G.X b\/(zCQ φ S b/\¬zCQ φ (Sf x0) b)
 have hD0:∀b,Dof G.X φ w S b->Dof X' φ w (Sf x0) b:=fun b ⟨h1,h2,h3⟩=>⟨h1,fun h=>by
  rcases h with h | ⟨⟨m,k,hm,hf⟩,_⟩
  ·exact h2 h
  ·exact h3 m k hm hf,fun m k h=>h3 m k (hSS.1 _ h)⟩
 let Gx:Ctx ρ := { G with X:=X' }
 have hpx:Pre' Gx E0 (Sf x0) a w σ φ := by
  refine ⟨hp.defers,hp.size,fun t p h=>let ⟨u,hu,hr⟩:=hp.env t p (zMm hE0 t p h);⟨u,hu,hr.mono fun b H=>⟨hD0 b H,rfl⟩⟩,?_,hp.fr,hp.agree,fun b hf=>hp.new b (let ⟨m,k,h1,h2⟩:=hf;⟨m,k,hSS.1 _ h1,h2⟩)⟩
  refine ⟨hSS.2,fun b H=>?_,fun b hf=>?_,fun m1 m2 k l h1 h2=>hp.inv.disj m1 m2 k l (hSS.1 _ h1) (hSS.1 _ h2),fun m k hm=>(hp.inv.ok m k (hSS.1 _ hm)).mono hD0⟩
  ·rcases H with H | ⟨h,_⟩
   ·exact hp.inv.xlt b H
   ·exact (hp.inv.lt b h).1
  ·have hf':zCQ φ S b:=let ⟨m,k,h1,h2⟩:=hf;⟨m,k,hSS.1 _ h1,h2⟩
   exact ⟨(hp.inv.lt b hf').1,fun h=>by
    rcases h with h | ⟨_,h⟩
    ·exact (hp.inv.lt b hf').2 h
    ·exact h hf⟩
 have hXB:X' b':=.inr ⟨⟨n,_,zAl hbx,(hφn b').2 rfl⟩,fun ⟨m,k,hm,hf⟩=>by
  have hne:n≠m:=fun e=>by
   have:(Sf x0).any (fun x=>lA n x.1)=true:=dN.2 ⟨(m,k),hm,by simp [e]⟩
   rw [hnS] at this;cases this
  exact hp.inv.disj n m _ k (zAl hbx) (hSS.1 _ hm) hne b' ((hφn b').2 rfl) hf⟩
 have hsz:G.w0.heap.size<=w.heap.size:=hp.fr.size
 rw [hro]
 refine zWJ (n:=1) (wpIn_rangeFunc ?_)
 intro fnn _
 obtain ⟨B,C⟩:∃B:LoopState->Option Code->Loop,B=fun st pe=>{ state:=st,pending:=pe,fn:=fnn,tmps:=a.tmps,params := #[t1,t2],assign:=.region ida opsA.toArray false,body:=.block idb (.region idr opsB.toArray false),defers:=w.heap.size }:=⟨_,rfl⟩
 obtain ⟨w1,hw1⟩:∃w1,(w.alloc (.deferred (some []))).alloc (.loop (B .ready none))=w1:=⟨_,rfl⟩
 have hL1:w1.heap[w.heap.size+1]? = some (.loop (B .ready none)):=by
  rw [<- hw1];have:=World.alloc_heap_new (w.alloc (.deferred (some []))) (.loop (B .ready none));rwa [World.size_alloc] at this
 have hold1:∀b,b<w.heap.size->w1.heap[b]? = w.heap[b]? := fun b H=>by
  rw [<- hw1]
  exact (zKs (by simp;omega)).trans (zKs H)
 have hK1:w1.heap[w.heap.size]? = some (.deferred (some [])):=by
  rw [<- hw1];exact (zKs (by simp)).trans (World.alloc_heap_new w _)
 have hsz1:w1.heap.size=w.heap.size+2:=by rw [<- hw1];simp
 have turn1:Turn G.w0.heap.size [] w w1:=⟨by rw [<- hw1];rfl,by rw [<- hw1];rfl,by rw [<- hw1];rfl,by omega,fun b H _=>hold1 b H,fun b H=>by simp at H⟩
 -- what is so between two rounds
 let J:Nat->World->Prop:=fun k W=>∃x s f,M k x=some r/\Pre' Gx E0 (Sf x) a W s f/\W.heap[w.heap.size+1]? = some (.loop (B .ready none))/\W.heap[w.heap.size]? = some (.deferred (some [])) /\
  W.heap[b']? = some (.cells ⟨[u0]⟩ ty fr0)/\RD W (Dof X' f W (Sf x)) (.sl size full (xs.map enc)) u0
 have I:∀{W:World} {s f S'} {b:Nat},Inv X' s f W S'->zP7 W.heap[b]? = false->¬zCQ f S' b:=fun hi hpl hf=>by
  have:=hi.plain hf;unfold zP7 at hpl;rw [hpl] at this;cases this
 have hNN:∀m∈G.N0,m∈N1:=fun m hm=>zLu hN0 m hm
 have hEN:∀t p,lk E0 t=some p->∀m∈names p,m∈N1:=fun t p h=>zS4 hN h
 -- one round
 have hback:BackJ G.P tS enc enc' size full xs (w.heap.size+1) b' J:=by
  rintro k W ⟨x,s,f,hM,hpW,hLW,hKW,hBW,hRW⟩
  refine ⟨Dof X' f W (Sf x),u0,fun b h=>h.1,?_,hRW,fun k' y v hk hy hv=>?_⟩
  ·have q1:(isAgg tS).run G.P W=.ok false W:=(zIi (w:=W) (T.htys _ (zAc hty))).1
   have:W.cell? ⟨b',0,none⟩=some u0:=zBN hBW
   simp [Instr.loadAt,Instr.sureAddr,loadVar,q1,this]
  subst hk
  have hv':RD W (Dof X' f W (Sf x)) (enc' y) v:=hv.toRD (hdat y)
  have hyr:=run_yield (P:=G.P) (args := #[.int .i64 (k':Nat),v]) hLW (by rw [C];rfl)
  rw [C] at hyr
  refine ⟨fnn,_,_,_,hyr,roundIn_of_wpIn trivial ?_⟩
  obtain ⟨ar,har⟩:∃ar:Act,ar=((({ tmps:=a.tmps,defers:=[] }:Act).put (some t1) (.int .i64 (k':Nat))).put (some t2) v):=⟨_,rfl⟩
  have hpr:Pre' Gx ((t2,enc' y)::(t1,.v (.int .i64 (k':Nat)))::E0) (Sf x) ar W s f:=by
   have p0:Pre' Gx E0 (Sf x) { tmps:=a.tmps,defers:=[] } W s f:={ hpW with defers:=DOk.nil _ _,size:=hpW.size,env:=hpW.env }
   rw [har]
   exact (p0.put (zCS hlt1) (.d (.v rfl))).put (zCS hlt2) (.d hv')
  have har':({ tmps:=(Array.zip #[t1,t2] #[.int .i64 (k':Nat),v]).foldl (fun tmps (t,a)=>tmps.setIfInBounds t a) a.tmps,defers:=[] }:Act)=ar:=by rw [har];simp [Act.put]
  rw [har']
  have hlW:Lay G.L (fun b=>¬zCQ f (Sf x) b) W:=hpW.laid (G:=Gx) fun b h=>h
  have notp:∀c a w,¬kwp (⟨G.P,G.fn,W,X',zCQ f (Sf x),s,N1,fun _ _ _=>True,G.dz,G.L,hlW,some (w.heap.size+1)⟩:Ctx Unit) () [.iter fun _ a w=>Pre (⟨G.P,G.fn,W,X',zCQ f (Sf x),s,N1,fun _ _ _=>True,G.dz,G.L,hlW,some (w.heap.size+1)⟩:Ctx Unit) (E1 k' y) (S1 k' y x) a w] (.panic c) a w:=fun c a w h=>zGe h
  have noto:∀a w,¬kwp (⟨G.P,G.fn,W,X',zCQ f (Sf x),s,N1,fun _ _ _=>True,G.dz,G.L,hlW,some (w.heap.size+1)⟩:Ctx Unit) () [.iter fun _ a w=>Pre (⟨G.P,G.fn,W,X',zCQ f (Sf x),s,N1,fun _ _ _=>True,G.dz,G.L,hlW,some (w.heap.size+1)⟩:Ctx Unit) (E1 k' y) (S1 k' y x) a w] .outgrown a w:=fun a w h=>zDW h
  have hopA:=hA k' y x hy W X' (zCQ f (Sf x)) s hlW (some (w.heap.size+1)) () rfl ar W ⟨s,f,hpr.defers,hpr.size,hpr.env,hpr.inv,Fr.refl _ _,fun _ _=>rfl,fun b H _=>H⟩
  refine wpIn_region_lit (F:=FR (some (w.heap.size+1))) ?_
  have:=zRn (ro:=some (w.heap.size+1)) (n:=0) (l2:=[]) (Q':=Exit.then (fun a₁ w₁ => ∃w₂,(Instr.beginRound (w.heap.size+1)).run G.P w₁ = .ok () w₂ /\ (Code.block idb (.region idr opsB.toArray false)).wpIn (Fence.wide.inRound (w.heap.size+1)) 0 G.P (roundPost G.P (w.heap.size+1) fun e W'=>e=.returned (.bool true)/\J k' W') a₁ w₂) (fun _ _ _=>False))
   notp noto ?_ hdA hopA
  ·rw [gI] at this;exact this
  rintro a1 w1' ⟨σ1,φ1,Q⟩
  refine wpListIn_nil ?_
  obtain ⟨o1,d1⟩:=Pre'.over (N1:=N1) hpW Q.inv Q.fr Q.agree Q.new hEN hNN
  have hLlt:=(gZ.1 hLW).1
  have hKlt:=(gZ.1 hKW).1
  have hBlt:=(gZ.1 hBW).1
  have hL1':=(Q.fr.block _ hLlt (I hpW.inv (by rw [hLW];rfl))).trans hLW
  have hK1':=(Q.fr.block _ hKlt (I hpW.inv (by rw [hKW];rfl))).trans hKW
  have hB1':=(Q.fr.block _ hBlt (fun h=>(hpW.inv.lt _ h).2 hXB)).trans hBW
  have hR1:=RD.mono d1 hRW
  have tb:Turn G.w0.heap.size [w.heap.size+1] w1' (w1'.putObj (w.heap.size+1) (.loop { B .ready none with state:=.busy })):=zKN hL1' (by omega)
  refine ⟨_,run_beginRound hL1' (by rw [C]),?_⟩
  generalize hw2:w1'.putObj (w.heap.size+1) (.loop { B .ready none with state:=.busy })=w2 at *
  have hL2:w2.heap[w.heap.size+1]? = some (.loop { B .ready none with state:=.busy }):=by rw [<- hw2];exact World.putObj_heap_same (gZ.1 hL1').1
  have hK2:=(tb.old _ (gZ.1 hK1').1 (by simp)).trans hK1'
  have hbn:b'≠w.heap.size+1:=fun e=>by rw [e,hL1'] at hB1';cases hB1'
  have hB2:=(tb.old _ (gZ.1 hB1').1 (by simpa using hbn)).trans hB1'
  obtain ⟨i2,r2,rd2⟩:=tb.keeps Q.inv
  have o2:=Pre'.tick (G:=Gx) tb o1
  have hR2:=rd2 _ _ hR1
  have hl2:Lay G.L (fun b=>¬zCQ φ1 (S1 k' y x) b) w2:=o2.laid (G:=Gx) fun b h=>h
  have notp2:∀c a w,¬kwp (⟨G.P,G.fn,w2,X',zCQ φ1 (S1 k' y x),σ1,N1,fun _ _ _=>True,G.dz,G.L,hl2,some (w.heap.size+1)⟩:Ctx ρ) r [.iter (zXg (⟨G.P,G.fn,w2,X',zCQ φ1 (S1 k' y x),σ1,N1,fun _ _ _=>True,G.dz,G.L,hl2,some (w.heap.size+1)⟩:Ctx ρ) (M k') (fun _=>[]) Sf)] (.panic c) a w:=fun c a w h=>zGe h
  have noto2:∀a w,¬kwp (⟨G.P,G.fn,w2,X',zCQ φ1 (S1 k' y x),σ1,N1,fun _ _ _=>True,G.dz,G.L,hl2,some (w.heap.size+1)⟩:Ctx ρ) r [.iter (zXg (⟨G.P,G.fn,w2,X',zCQ φ1 (S1 k' y x),σ1,N1,fun _ _ _=>True,G.dz,G.L,hl2,some (w.heap.size+1)⟩:Ctx ρ) (M k') (fun _=>[]) Sf)] .outgrown a w:=fun a w h=>zDW h
  have hopB:=hB k' y x hy w2 X' (zCQ φ1 (S1 k' y x)) σ1 hl2 (some (w.heap.size+1)) r hM a1 w2 ⟨σ1,φ1,tb.marks Q.defers,Q.size,fun t p h=>let ⟨u,hu,hr⟩:=Q.env t p h;⟨u,hu,r2 _ _ hr⟩,i2,Fr.refl _ _,fun _ _=>rfl,fun b H _=>H⟩
  refine wpIn_block (wpIn_region_lit (F:=FR (some (w.heap.size+1))) ?_)
  have:=zRn (ro:=some (w.heap.size+1)) (n:=0) (l2:=[]) (Q':=Exit.inBlock idb (roundPost G.P (w.heap.size+1) fun e W'=>e=.returned (.bool true)/\J k' W')) notp2 noto2 ?_ hdB hopB
  ·rw [gI] at this;exact this
  rintro a3 w3 ⟨x',hM',σ3,φ3,hp3⟩
  refine wpListIn_nil ?_
  obtain ⟨o3,d3⟩:=Pre'.over (N1:=N1) o2 hp3.inv hp3.fr hp3.agree hp3.new hEN hNN
  have hL3:=(hp3.fr.block _ (gZ.1 hL2).1 (I i2 (by rw [hL2];rfl))).trans hL2
  have hK3:=(hp3.fr.block _ (gZ.1 hK2).1 (I i2 (by rw [hK2];rfl))).trans hK2
  have hB3:=(hp3.fr.block _ (gZ.1 hB2).1 (fun h=>(i2.lt _ h).2 hXB)).trans hB2
  have hR3:=RD.mono d3 hR2
  have tr:=run_endRound (P:=G.P) none hL3
  have er:({ ({ B .ready none with state:=.busy }:Loop) with state:=if (none:Option Code).isNone then .ready else .done,pending:=none }:Loop)=B .ready none:=by rw [C];rfl
  rw [er] at tr
  have tc:Turn G.w0.heap.size [w.heap.size+1] w3 (w3.putObj (w.heap.size+1) (.loop (B .ready none))):=zKN hL3 (by omega)
  obtain ⟨i4,r4,rd4⟩:=tc.keeps hp3.inv
  exact ⟨_,_,tr,rfl,x',σ3,φ3,hM',Pre'.tick (G:=Gx) tc o3,World.putObj_heap_same (gZ.1 hL3).1,(tc.old _ (gZ.1 hK3).1 (by simp)).trans hK3,(tc.old _ (gZ.1 hB3).1 (by simpa using hbn)).trans hB3,rd4 _ _ hR3⟩
 -- the whole
 have hb1:w1.heap[b']? = some (.cells ⟨[u0]⟩ ty fr0):=(hold1 b' (gZ.1 zQP).1).trans zQP
 obtain ⟨i1,r1,rd1⟩:=turn1.keeps hpx.inv
 have hJ0:J xs.length w1:=⟨x0,σ,φ,hr,Pre'.tick (G:=Gx) turn1 hpx,hL1,hK1,hb1,rd1 _ _ (hu0.mono fun b H=>⟨hD0 b H,rfl⟩)⟩
 have hcalls:=zfj (T:=T) (P:=G.P) hf H hn hres ht hld hback hJ0
 refine ⟨w.heap.size+1,[{ target:=.collected w.heap.size,args := #[] }],w1,{ target:=.fn (.func g) #[.pointer (some ⟨b',0,none⟩)],args := #[.func (.yield (w.heap.size+1)) #[] #[]] },w1,g,
  #[.func (.yield (w.heap.size+1)) #[] #[]] ++ #[.pointer (some ⟨b',0,none⟩)],w1,?_,?_,fun _ _=>trivial,?_,fun h=>(by cases h),?_⟩
 ·rw [<- hw1,C];exact run_enterLoop_outer _ _ _ _ _
 ·simp only [resolve,hgv]
  simp [Deferred.ofValue,Act.eval]
 ·simp [invoke,zIh hcl]
 refine callsIn_wide.2 ((callsIn_wide (n:=1)).1 (CallsIn.mono hcalls ?_))
 rintro e W ⟨⟨v,rfl⟩,x,s,f,hM,hpW,hLW,hKW,hBW,hRW⟩
 refine ⟨none,_,by have:=run_endLoop (P:=G.P) hLW (by rw [C];simp);rw [C] at this;exact this,?_⟩
 have te:Turn G.w0.heap.size [w.heap.size+1] W (W.putObj (w.heap.size+1) (.loop { B .ready none with state:=.exhausted })):=zKN hLW (by omega)
 rw [C] at te
 have hfin:Pre' G E0 (Sf x) a _ s f:=Pre'.unbar (G:=G) (X':=X') (fun b H=>Or.inl H) (Pre'.tick (G:=Gx) te hpW)
 refine hend x r hM _ _ ⟨s,f,{ hfin with defers:=?_,size:=hfin.size,env:=hfin.env }⟩
 obtain ⟨bs,h1,h2,h3⟩:=hfin.defers
 obtain ⟨bs0,h10,h20,h30⟩:=hp.defers
 refine ⟨w.heap.size::bs,by rw [h1];rfl,lS.2 ⟨fun hm=>?_,h2⟩,fun b H=>?_⟩
 ·have:zXB w.heap.size∈bs0.map zXB:=by rw [<- h10,h1];exact lE.2 ⟨_,hm,rfl⟩
  obtain ⟨b0,hb0,e0⟩:=lE.1 this
  have:b0=w.heap.size:=by simp only [zXB,Deferred.mk.injEq,Target.collected.injEq] at e0;exact e0.1
  subst this
  have:=(gZ.1 (h30 _ hb0).2).1
  omega
 ·rcases lD.1 H with rfl | H
  ·exact ⟨by omega,(te.old _ (gZ.1 hKW).1 (by simp)).trans hKW⟩
  ·exact h3 b H
theorem zXJ {T:Tab G.P} {α β : Type} {enc : α -> List PV} {enc' : α -> PV} {e size by_:Nat} {full:Bool} {g:FuncId} {fn:Func} {tS tE tI tB tF:TypeId} {E E0:Env} {S:zAC} {K:List (Kont ρ)} {xs:List α} 
  (M:Nat -> β -> Option ρ) (Sf : β -> zAC) (N1:List Nat) (E1:Nat -> α -> Env) {h:Operand} {t1 t2:Tmp} {ida idb idr n:Nat} {b f:List Oper} {x0 : β}
  (hf:G.P.funcs[g]? = some fn) (hb:fn.body=some (zTq tS tE tI tB tF)) (hn:fn.ntmps=19) (I:fn.results = #[]) (hcl:zAo G.P g=true) (ht:lku T.els tS=some (e,size,by_)) (hty:lku T.tys tS=some (false,1))
  (hld:∀y,ev1 T [(15,.el (enc y) 0)] [] (.load tE (.tmp 15))=some (enc' y)) (s:∀y,zXq (enc' y)=true)
  (hg:ev E h=some (.fn (.func g) [] [.loc n 0])) {ty:Nat} (hbx:lkS S n=some (.box ty [.sl size full (xs.map enc)]))
  (J:zOO E0 E) (hN:zUH N1 E0=true) (Q:zOG G.N0 N1=true) (W:zGN (Sf x0) S) (hSn:zA2 ((Sf x0).map (·.1))=true) (hnS:(Sf x0).any (fun x=>lA n x.1)=false)
  (F:lB t1 G.fn.ntmps=true) (H:lB t2 G.fn.ntmps=true) (hdA:b.all (fun o=>zGR o.op)=true) (hdB:f.all (fun o=>zGR o.op)=true)
  (hA:∀(k:Nat) (y : α) (x : β),xs[k]? = some y->∀w0 X X0 σ0 C ro,PO (⟨G.P,G.fn,w0,X,X0,σ0,N1,fun _ _ _=>True,G.dz,G.L,C,ro⟩:Ctx Unit) (some ()) b.toArray b [.iter fun _ a w=>Pre (⟨G.P,G.fn,w0,X,X0,σ0,N1,fun _ _ _=>True,G.dz,G.L,C,ro⟩:Ctx Unit) (E1 k y) (Sf x) a w]
   ((t2,enc' y)::(t1,.v (.int .i64 (k:Nat)))::E0) (Sf x))
  (hB:∀(k:Nat) (y : α) (x : β),xs[k]? = some y->∀w0 X X0 σ0 C ro,PO (⟨G.P,G.fn,w0,X,X0,σ0,N1,fun _ _ _=>True,G.dz,G.L,C,ro⟩:Ctx ρ) (M (k+1) x) f.toArray f [.iter (zXg (⟨G.P,G.fn,w0,X,X0,σ0,N1,fun _ _ _=>True,G.dz,G.L,C,ro⟩:Ctx ρ) (M k) (fun _=>[]) Sf)] (E1 k y) (Sf x))
  (B:∀x,PN G (M 0 x) K E0 (Sf x)) (hz:G.dz=G.w0.heap.size+1:=by rfl) (hro:G.ro=none:=by rfl) :
  PW G (M xs.length x0) (.rangeFunc h #[t1,t2] (.region ida b.toArray false) (.block idb (.region idr f.toArray false))) K E S :=
 zYY M Sf N1 E1 (fun _ _ x=>Sf x) hf hb hn I hcl ht hty hld s hg hbx J hN Q W hSn hnS F H hdA hdB hA hB B hz hro
theorem zQp {α : Type} {o:Option α} {f : α -> Option ρ} {y : α} {all:Array Oper} {ops:List Oper} {K:List (Kont ρ)} {E:Env} {S:zAC} (hy:o=some y) (h:PO G (f y) all ops K E S):PO G (bnd o f) all ops K E S:=by
 subst hy;exact h
end stmt
def zaJ (tS tF : TypeId) : List Oper := [opB 1 (.box tS (.tmp 0)) 0 "iter.go:26" #[], opB 2 (.assign (.const .nilFunc)) tF "iter.go:26" #[]]
def zaK (tF b : TypeId) (g : FuncId) : List Oper := [opB 3 (.makeFunc (.func g) #[] #[.tmp 1]) b "iter.go:27" #[], opB 2 (.assign (.tmp 3)) tF "iter.go:27" #[ed 0, ep 0]]
def zPs (tS tF b:TypeId) (g:FuncId):Code:=.seq (.region 0 (zaJ tS tF).toArray false) (.seq (.region 1 (zaK tF b g).toArray false) .ret)
theorem zWc {L:World->Prop} {P:Program} {f g:FuncId} {fn:Func} {tS tF C:TypeId} (T:Tab P) (B:P.funcs[f]? = some fn) (s:fn.body=some (zPs tS tF C g)) (k:fn.ntmps=4) (b:fn.results = #[.tmp 2]) {size:Nat} {full:Bool} {rows:List (List PV)} :
  FC L P f [.sl size full rows] [] [] fun p S'=>p=.fn (.func g) [] [.loc 1 0]/\S'=[(1,.box tS [.sl size full rows])]:=by
 have lt:∀d,d<4->lB d fn.ntmps=true:=fun d h=>by rw [k,cO];exact h
 refine zT3 (m:=some ()) (r:=()) (args:=[.sl size full rows]) (S:=[]) (N0:=[]) (post:=fun _ p S'=>p=.fn (.func g) [] [.loc 1 0]/\S'=[(1,.box tS [.sl size full rows])]) B s (by rw [k];rfl) rfl fun w0 X X0 σ0 _=>?_
 refine zTF ?_
 refine zFU ?_
 refine zR5 1 rfl rfl rfl rfl rfl (lt 1 (by omega)) rfl rfl rfl rfl ?_
 refine zHb (T:=T) 1 k.symm rfl ?_
 refine zGK ?_
 refine zIz ?_
 refine zTF ?_
 refine zFU ?_
 refine zHb (T:=T) 2 k.symm rfl ?_
 refine zGK ?_
 refine zIz ?_
 exact zb6 (S':=[(1,.box tS [.sl size full rows])]) (zF0 ⟨rfl,trivial⟩ rfl) b rfl ⟨rfl,rfl⟩
section
variable {ρ : Type} {G:Ctx ρ} {m:Option ρ} {K:List (Kont ρ)} {E:Env} {S:zAC} {all:Array Oper}
theorem zLq {o:Oper} {f g:Nat} {fn:Func} {args:Array Operand} {tys:Array TypeId} {tS tF tG:TypeId} {size:Nat} {full:Bool} {E':Env} {S1 S2:zAC} (T:Tab G.P) (X:G.P.funcs[f]? = some fn)
  (Q:fn.body=some (zPs tS tF tG g)) (hn:fn.ntmps=4) (h:fn.results = #[.tmp 2]) (hdr:zPP [] S=some S1) (F:zJi [n] S1=some S2) (C:zHj [n] E=some E') (I:zA2 ([n]++S2.map (·.1))=true) (J:[n].all (zEY G)=true)
  (B:zD5 [n] [.fn (.func g) [] [.loc n 0]]=true)
  (ho:o.op=.call ⟨.value x,args,tys⟩) (hx:ev E x=some (.fn (.func f) [] [])) (hg:gE all E o=some true) (ha:zMG E args.toList [.sl size full rows]) (s:zAo G.P f=true) (W:o.dst=some d) (H:lB d G.fn.ntmps=true)
  (k:PO G m all rest K ((d,.fn (.func g) [] [.loc n 0])::E') ((n,.box tS [.sl size full rows])::S2)):PO G m all (o::rest) K E S:=by
 have b:zDE ([]++[n]) [(n,.box tS [.sl size full rows])]=true:=by simp [zDE,zD5,names]
 refine zUW (M:=some ()) (g:=fun _=>m) (enc:=fun _=>.fn (.func g) [] [.loc n 0]) (Sr:=fun _=>[(n,.box tS [.sl size full rows])]) (first:=[]) (cap:=[]) (qs:=[.sl size full rows]) (Sc:=[]) (N0:=[]) (NR:=[n]) [n] (fun _ _=>?_) trivial (fun _=>rfl) hdr F C rfl I ?_ J (fun _=>b) (fun _=>B) ho hx hg ha s W H fun _ _=>k
 ·have:=zP0 (L:=G.L) (p:=.fn (.func g) [] [.loc 1 0]) (Sc:=[]) (Sr:=[(1,.box tS [.sl size full rows])]) [(1,n)] [1] (zWc (g:=g) T X Q hn h (size:=size) (full:=full) (rows:=rows)) rfl rfl rfl rfl rfl rfl
  exact this
 ·simp [zOG]
end
end
section
def zV8 {α : Type} (xs:List α) (l:Int) (z : α):Option (List α):=if 0<=l/\l<=(xs.length:Int) then some (xs.take l.toNat++dH (xs.length - l.toNat) z) else none
theorem zUp {z:Value} (m:Nat):(Builtin.zeroCells #[z] m).toList=dH m z:=by
 unfold Builtin.zeroCells
 simp only [List.size_toArray,cP,List.length_nil,dA,dI]
 refine List.ext_getElem (by simp) fun i b f=>?_
 simp [Nat.mod_one]
section
variable {ρ : Type} {G:Ctx ρ} {m:Option ρ} {K:List (Kont ρ)} {E:Env} {S:zAC} {all:Array Oper}
theorem zeJ {a:Act} {d:Nat} {v:Value} (h:d<a.tmps.size):(a.put (some d) v).eval (.tmp d)=v:=by
 simp [Act.put,Act.eval,h]
theorem zYT {T:Tab G.P} {α : Type} {o1 o2:Oper} {rest:List Oper} (enc : α -> List PV) (xs:List α) (z0 : α) {t:TypeId} {x lo:Operand} {args:Array Operand} {tys:Array TypeId} {n e e' by_:Nat} {l:Int} {kk:IntKind} {f:List α -> Option ρ} {d:Nat} {z:Value} {S':List α -> zAC}
  (ho1:o1.op=.slice t x (some lo) none none) (hg1:gE all E o1=some true) (hx:ev E x=some (.own n)) (hb:lkS S n=some (.arr e' 1 (xs.map enc))) (hl:ev E lo=some (.v (.int kk l))) (ht:lku T.els t=some (e,1,by_)) (hz:lku T.zeros e=some z) (hzc:z.cells = #[z]) (hzf:zSy z=true) (hz1:z.oneCell'=true) (henc:enc z0=[.v z]) (hd1:o1.dst=some d) (hlt:lB d G.fn.ntmps=true)
  (ho2:o2.op=.call ⟨.builtin .clear,args,tys⟩) (h1:args.toList=[.tmp d]) (h2:tys.toList=[t]) (hg2:gE all ((d,.junk)::E) o2=some true) (hd2:o2.dst=none) (hS:∀s:List α,zOD n (.arr e' 1 (s.map enc)) S=some (S' s))
  (k:∀s,zV8 xs l z0=some s->PO G (f s) all rest K ((d,.junk)::E) (S' s)):PO G (bnd (zV8 xs l z0) f) all (o1::o2::rest) K E S:=by
 refine zGJ fun s hy=>zGT hg1 fun r hr a w ⟨σ,φ,hp⟩=>?_
 have Q:=hy
 unfold zV8 at Q
 split at Q
 case isFalse=>cases Q
 rename_i hlr
 obtain ⟨p1,p2⟩:=hlr
 have he:=(lJ.inj Q).symm
 have W:s.length=xs.length:=by rw [he];simp;omega
 have hmem:=zAl hb
 obtain ⟨g0,gb⟩:=hp.inv.ok n _ hmem
 have hxv:a.eval x = σ n:=by
  have:=zAm hp.env hx
  generalize a.eval x=v at this
  cases this with
  | own=>rfl
  | d hd=>cases hd
 obtain ⟨hlv,_⟩:=(zAm hp.env hl).flat_inv
 obtain ⟨F,inf,B,hsz,_⟩:=zBF (T.hels _ (zAc ht))
 have hz':=T.hzeros _ (zAc hz)
 simp only [B,gA] at hz'
 have hdl:=zCS hlt
 obtain ⟨args⟩:=args
 obtain ⟨tys⟩:=tys
 simp only at h1 h2
 subst h1 h2
 have C:∀row∈s.map enc,row.length=1:=fun row J=>by
  obtain ⟨y,H,rfl⟩:=lE.1 J
  rw [he] at H
  rcases cA.1 H with H | H
  ·exact g0 _ (dJ (gY H))
  ·rw [dS H,henc];rfl
 -- both steps at once
 have fin:∀(v:Value) (w':World),(execOp a.eval o1).run G.P w=.ok (.value v) w->(Builtin.clear_ #[t] o2.type #[v]).run G.P w=.ok (.tuple #[]) w'->w'.heap.size=w.heap.size->(∀b,¬φ n b->w'.heap[b]? = w.heap[b]?)->w'.os=w.os->w'.tape=w.tape->w'.output=w.output ->
   (∀D',(∀b,Dof G.X φ w S b->D' b/\w'.heap[b]? = w.heap[b]?)->zCT σ w' D' (σ n) (φ n) (.arr e' 1 (s.map enc)))->o1.wp G.P a w (wpList G.P all (kwp G r K) (o2::rest)) (kwp G r K):=by
  intro v w' hr1 hr2 q1 q2 q3 q4 q5 q6
  unfold Oper.wp
  rw [hr1,Oper.upon_value,hd1]
  have hp1:=hp.put (p:=.junk) (u:=v) hdl .junk
  have hw:Region.wanted o2 (yielded all (a.put (some d) v).tmps)=true:=zdg hp1.env hg2
  unfold wpList
  rw [iP hw]
  left
  have hev:(a.put (some d) v).eval (.tmp d)=v:=zeJ (by rw [hp.size];exact hdl)
  have hrun2:(execOp (a.put (some d) v).eval o2).run G.P w=.ok (.value (.tuple #[])) w':=by
   simp [execOp,ho2,resolve,invoke,builtin,hev,hr2]
  unfold Oper.wp
  rw [hrun2,Oper.upon_value,hd2]
  exact k s hy r hr _ _ ⟨σ,φ,hp1.turn hmem (hS s) q1 q2 q3 q4 q5 q6⟩
 rcases gb with ⟨h3,⟨ao,h4⟩,h5⟩ | ⟨b,us,cap,h3,h3',h4,h5,h6,⟨fr,h7,h7',h7''⟩,h8⟩
 ·have hx0:xs=[]:=by simpa using h3
  subst hx0
  have hl0:l=0:=by simp at p2;omega
  subst hl0
  have hy0:s=[]:=by simpa using W
  have M:=zJK (P:=G.P) (b:=true) (len:=0) (cap:=0) (w:=w) (lo:=some (.int kk 0)) (hi:=none) (l:=0) (h:=0) (by omega) (by omega) (by omega) (.inr ⟨_,rfl⟩) (.inl ⟨rfl,rfl⟩)
  refine fin (.slice ao 0 0) w ?_ ?_ rfl (fun _ _=>rfl) rfl rfl rfl fun D' hD=>⟨C,.inl ⟨by rw [hy0];rfl,⟨ao,h4⟩,h5⟩⟩
  ·simp [execOp,ho1,hxv,h4,hlv,Instr.sliceAt,Instr.slice,run_underlying F,M,sizeOf,typeInfo,B,hsz]
  ·cases ao<;>simp [Builtin.clear_,run_underlying F]
 ·rw [lL] at h3 h5
  have M:=zJK (P:=G.P) (b:=true) (len:=xs.length) (cap:=cap) (w:=w) (lo:=some (.int kk l)) (hi:=none) (l:=l) (h:=xs.length) (by omega) (by omega) (by omega) (.inr ⟨_,rfl⟩) (.inl ⟨rfl,rfl⟩)
  have hblk:∀(L:List Value) (w':World) (D':Nat->Prop),(∀b,Dof G.X φ w S b->D' b/\w'.heap[b]? = w.heap[b]?)->L.length=us.length->w'.heap[b]? = some (.cells ⟨L⟩ (e' % zLI) fr)->(∀j,L[j]? = if l.toNat<=j/\j<xs.length then some z else us[j]?)->zCT σ w' D' (σ n) (φ n) (.arr e' 1 (s.map enc)):=by
   intro L w' D' hD hul hw' hus
   refine ⟨C,.inr ⟨b,L,cap,by rw [lL,W];exact h3,h3',by rw [hul,h4],⟨by rw [lL,W];exact h5.1,h5.2⟩,h6,⟨fr,hw',by rw [hul];exact h7',h7''⟩,fun j c u hc hu=>?_⟩⟩
   have I:j<(s.map enc).flatten.length:=(lF.1 hc).1
   rw [zI9 C,lL,W,dI] at I
   rw [hus j] at hu
   have hjy:j<s.length:=by omega
   have J:(s.map enc)[j]? = some (enc s[j]):=by rw [lK,lC hjy];rfl
   have hf:=zEC C J (show 0<1 by omega)
   rw [dI,cH,hc] at hf
   by_cases hjz:l.toNat<=j
   ·rw [iP ⟨hjz,I⟩] at hu
    have hyz:s[j]=z0:=by
     simp only [he]
     rw [List.getElem_append_right (by simp;omega)]
     simp
    rw [hyz,henc] at hf
    simp only [List.getElem?_cons_zero,lJ.injEq] at hf hu
    subst hf hu
    exact .v hzf
   ·rw [iN (by omega)] at hu
    have hyx:s[j]=xs[j]'I:=by
     simp only [he]
     rw [List.getElem_append_left (by simp;omega)]
     simp
    have hrow0:(xs.map enc)[j]? = some (enc (xs[j]'I)):=by rw [lK,lC I];rfl
    have hf0:=zEC g0 hrow0 (show 0<1 by omega)
    rw [dI,cH,<- hyx,<- hf] at hf0
    exact (h8 j c u hf0 hu).mono hD
  by_cases hlx:l.toNat=xs.length
  ·refine fin (.slice (if cap=l.toNat then some ⟨b,0,none⟩ else some ⟨b,l.toNat,none⟩) 0 (cap - l.toNat)) w ?_ ?_ rfl (fun _ _=>rfl) rfl rfl rfl fun D' hD=>hblk us w D' hD rfl h7 fun j=>by rw [iN (by omega)]
   ·simp only [execOp,ho1,hxv,h3]
    simp [Instr.sliceAt,Instr.slice,run_underlying F,M,sizeOf,typeInfo,B,hsz,zCZ,hlx,hlv]
   ·split<;>simp [Builtin.clear_,run_underlying F]
  ·obtain ⟨w',cur',s1,s2,s3,s4,s5,s6,s7,s8,s9⟩:=zH7 (P:=G.P) b l.toNat (e' % zLI) fr (dH (xs.length - l.toNat) z) 0 us w h7 h7' (by rw [h4];simp;omega) (fun v hv=>by rw [dS hv];exact hz1)
   refine fin (.slice (some ⟨b,l.toNat,none⟩) (xs.length - l.toNat) (cap - l.toNat)) w' ?_ ?_ s5 (fun c hc=>s6 c fun e=>hc ((h3' c).2 e)) s7 s8 s9 fun D' hD=>hblk cur' w' D' hD s3 s2 fun j=>?_
   ·have hne:¬cap=l.toNat:=by omega
    simp only [execOp,ho1,hxv,h3]
    simp [Instr.sliceAt,Instr.slice,run_underlying F,M,sizeOf,typeInfo,B,hsz,zCZ,hlv,hne]
   ·have hm0:¬xs.length - l.toNat=0:=by omega
    obtain ⟨m1,hm1⟩:∃m1,xs.length - l.toNat=m1+1:=⟨xs.length - l.toNat - 1,by omega⟩
    rw [hm1] at s1 ⊢
    simp [Builtin.clear_,run_underlying F,zeroValue,typeInfo,B,hz',hzc,zUp,s1]
   ·rw [s4 j,cH,List.length_replicate]
    by_cases hj:l.toNat<=j/\j<xs.length
    ·rw [iP (by omega),iP hj,eD,iP (by omega)]
    ·rw [iN (by omega),iN hj]
end
end
section
variable {α β:Type} {n e size kc ke i:Nat} {o:Oper} {rest:List Oper} {rows:List (List PV×Bool)} {w:World} {D fp:Nat->Prop} {t:TypeId} {S':zAC} {E':Env} {x:Operand} {r:List PV×Bool} {v:Value} {σ:Nat->Value}
section
variable {ρ : Type} {G:Ctx ρ} {m:Option ρ} {K:List (Kont ρ)} {E:Env} {S:zAC} {all:Array Oper}
theorem Pre'.redo {a:Act} {w':World} {C:Nat->Value} {φ B:Nat->Nat->Prop} {E2:Env} {S2:zAC} (h:Pre' G E S a w σ φ) (hos:w'.os=w.os) (I:w'.tape=w.tape) (W:w'.output=w.output) (hsz:w.heap.size<=w'.heap.size)
  (hnd:(S2.map (·.1)).Nodup) (f:∀b,zCQ B S2 b->zCQ φ S b\/(w.heap.size<=b/\b<w'.heap.size)) (s:∀b,b<w.heap.size->¬zCQ φ S b->w'.heap[b]? = w.heap[b]?)
  (H:∀n m k l,(n,k)∈S2->(m,l)∈S2->n≠m->∀b,B n b->¬B m b)
  (hok:∀n k,(n,k)∈S2->∀D',(∀b,Dof G.X φ w S b->D' b/\w'.heap[b]? = w.heap[b]?)->zCT C w' D' (C n) (B n) k)
  (M:∀t p,lk E2 t=some p->∃u,a.tmps[t]? = some u/\∀D',(∀b,Dof G.X φ w S b->D' b/\w'.heap[b]? = w.heap[b]?)->R C w' D' p u)
  (hag:∀n∈G.N0,C n = σ n):Pre' G E2 S2 a w' C B:=by
 have hD:∀b,Dof G.X φ w S b->Dof G.X B w' S2 b/\w'.heap[b]? = w.heap[b]? := fun b ⟨h1,h2,h3⟩=>by
  refine ⟨⟨by omega,h2,fun n k Q F=>?_⟩,s b h1 fun ⟨n,k,Q,F⟩=>h3 n k Q F⟩
  rcases f b ⟨n,k,Q,F⟩ with ⟨n',k',J,L⟩ | ⟨J,_⟩
  ·exact h3 n' k' J L
  ·omega
 refine ⟨h.dk s,h.size,fun t p ht=>let ⟨u,hu,hr⟩:=M t p ht;⟨u,hu,hr _ hD⟩,⟨hnd,fun b hb=>by have:=h.inv.xlt b hb;omega,fun b F=>?_,H,fun n k Q=>hok n k Q _ hD⟩,
  ⟨hos.trans h.fr.os,I.trans h.fr.tape,W.trans h.fr.output,by have:=h.fr.size;omega,fun b hb hx=>?_⟩,fun n hn=>(hag n hn).trans (h.agree n hn),fun b F hlt=>?_⟩
 ·rcases f b F with g | ⟨J,L⟩
  ·obtain ⟨J,L⟩:=h.inv.lt b g;exact ⟨by omega,L⟩
  ·exact ⟨L,fun hx=>by have:=h.inv.xlt b hx;omega⟩
 ·have:=h.fr.size
  rw [s b (by omega) fun F=>hx (h.new b F hb)]
  exact h.fr.block b hb hx
 ·have:=h.fr.size
  rcases f b F with g | ⟨J,_⟩
  ·exact h.new b g hlt
  ·omega
theorem zVY {S:zAC} (h:zEx n S=some S'):∀m k,(m,k)∈S'->m≠n/\∃k0,(m,k0)∈S/\ze0 [n] k0 k:=fun m k B=>by
 have s:zJi [n] S=some S':=by simp [zJi,h]
 obtain ⟨b,f⟩:=zM0 s m k B
 exact ⟨by simpa using b,f⟩
theorem zYA {E:Env} (h:zFh n E=some E') {σ : Nat->Value} {w:World} {D:Nat->Prop} {tmps:Array Value} (B:zQV σ w D E tmps) {f:Nat->Value} (s : ∀x,x≠n -> f x = σ x) {w':World} :
  ∀t p,lk E' t=some p->∃u,tmps[t]? = some u/\∀D',(∀b,D b->D' b/\w'.heap[b]? = w.heap[b]?)->R f w' D' p u:=fun t p F=>by
 have C:zHj [n] E=some E':=by simp [zHj,h]
 rcases zOp C t p F with rfl | ⟨H,I⟩
 ·obtain ⟨q,L⟩:=zMz C t _ F
  obtain ⟨u,k,_⟩:=B t q L
  exact ⟨u,k,fun _ _=>.junk⟩
 ·obtain ⟨u,k,hr⟩:=B t p H
  exact ⟨u,k,fun D' J=>(hr.mono J).agree fun x hx=>s x fun e=>zPV (I n (by simp)) x hx e⟩
theorem zgm (n kc ke:Nat) (enc : α -> List PV) (xs:List α) {e size:Nat} {S':zAC} (hb:lkS S n=some (.arr e size (xs.map enc))) (he:lB e zLI=true) (I:lB kc size=true)
  (hS:zOD n (.tre e size kc ke ((xs.map fun x=>(x,false)).map fun x=>(enc x.1,x.2))) S=some S') {a:Act} {w:World}:Pre G E S a w->Pre G E S' a w:=by
 rintro ⟨σ,φ,Q⟩
 have L:=zAl hb
 refine ⟨σ,φ,Q.turn L hS rfl (fun _ _=>rfl) rfl rfl rfl fun D' hD=>?_⟩
 obtain ⟨B,h⟩:=Q.inv.ok n _ L
 have f:∀(i:Nat) (r:List PV×Bool),((xs.map fun x=>(x,false)).map fun x=>(enc x.1,x.2))[i]? = some r->r.2=false/\(xs.map enc)[i]? = some r.1:=fun i r hr=>by
  simp only [List.map_map,lK,lI,Function.comp] at hr
  obtain ⟨x,s,rfl⟩:=hr
  exact ⟨rfl,by simp [s]⟩
 refine ⟨fun r hr=>?_,zCS I,?_⟩
 ·obtain ⟨i,hi,rfl⟩:=gO.1 hr
  exact B _ (lU (f i _ (lC hi)).2)
 rcases h with ⟨s,C,F⟩ | ⟨b,us,cap,s,C,F,X,h5,⟨fr,h6,_,H⟩,h7⟩
 ·have:xs=[]:=by simpa using s
  subst this
  exact .inl ⟨rfl,C,F⟩
 ·have:=H he;subst this
  refine .inr ⟨b,us,cap,fun _ _=>False,by simpa using s,fun x=>by simp [C x],fun _ _ h=>h,fun _ _ _ _ _ _ h=>h.elim,F,by simpa using X,h5,h6,fun i r hr=>?_⟩
  obtain ⟨r2,W⟩:=f i r hr
  refine ⟨fun _ _ h=>h,fun k c u J hu=>⟨fun M=>(by rw [r2] at M;cases M.1),fun _=>.inr ?_⟩⟩
  have hk:k<size:=by rw [<- B _ (lU W)];exact (lF.1 J).1
  exact (h7 (i*size+k) c u ((zEC B W hk).trans J) hu).mono hD
theorem zfN {ops:List Oper} (n kc ke:Nat) (enc : α -> List PV) (xs:List α) {e size:Nat} {S':zAC} (h:lkS S n=some (.arr e size (xs.map enc))) (s:lB e zLI=true) (b:lB kc size=true)
  (f:zOD n (.tre e size kc ke ((xs.map fun x=>(x,false)).map fun x=>(enc x.1,x.2))) S=some S') (k:PO G m all ops K E S'):PO G m all ops K E S:=fun r hr a w B=>k r hr a w (zgm n kc ke enc xs h s b f B)
theorem zM9 {T:Tab G.P} {args:Array Operand} {tys:Array TypeId} {z:Nat×Nat×Nat} {d l:Nat} 
  (ho:o.op=.call ⟨.builtin .len,args,tys⟩) (L:args.toList=[x]) (M:tys.toList=[t]) (X:gE all E o=some true) (hx:ev E x=some (.own n)) (W:lkS S n=some (.tre e size kc ke rows)) (ht:lku T.els t=some z) (C:rows.length=l)
  (B:o.dst=some d) (F:lB d G.fn.ntmps=true) (k:PO G m all rest K ((d,.v (.int .i64 (l:Nat)))::E) S):PO G m all (o::rest) K E S:=by
 refine zGT X fun r hr a w ⟨σ,φ,H⟩=>?_
 have J:a.eval x = σ n:=by
  have:=zAm H.env hx
  generalize a.eval x=v at this
  cases this with
  | own=>rfl
  | d B=>cases B
 have I:∃h c,σ n=.slice h l c:=by
  obtain ⟨_,_,⟨s,⟨h,Q⟩,_⟩ | ⟨b,us,cap,Fs,s,_⟩⟩:=H.inv.ok n _ (zAl W)
  ·subst s;simp at C;subst C;exact ⟨h,0,Q⟩
  ·exact ⟨_,_,by rw [s,C]⟩
 obtain ⟨h,c,I⟩:=I
 obtain ⟨args⟩:=args
 obtain ⟨tys⟩:=tys
 simp only at L M
 subst L M
 have f:(execOp a.eval o).run G.P w=.ok (.value (.int .i64 (l:Nat))) w:=by
  simp [execOp,ho,resolve,invoke,builtin,J,I,Builtin.len_,run_underlying (zBF (T.hels _ (zAc ht))).1,goInt]
 unfold Oper.wp
 rw [f,Oper.upon_value,B]
 exact k r hr _ _ ⟨σ,φ,H.put (zCS F) (.d (.v rfl))⟩
theorem zBS {T:Tab G.P} (xs:List α) {f : α -> Option ρ} {t:TypeId} {x ix:Operand} {n size e e' kc ke by_:Nat} {rows:List (List PV×Bool)} {kk:IntKind} {i:Int} {d:Nat}
  (B:rows.length=xs.length) (ho:o.op=.indexAddr t x ix) (hg:gE all E o=some true) (hx:ev E x=some (.own n)) (hb:lkS S n=some (.tre e' size kc ke rows)) (hi:ev E ix=some (.v (.int kk i))) (ht:lku T.els t=some (e,size,by_))
  (I:o.dst=some d) (Q:lB d G.fn.ntmps=true) (k:∀y,idx xs i=some y->PO G (f y) all rest K ((d,.ela n size i.toNat 0)::E) S):PO G (bnd (idx xs i) f) all (o::rest) K E S:=by
 refine zGJ fun y hy=>zGT hg fun r hr a w ⟨σ,φ,F⟩=>?_
 have h:=hy
 unfold idx at h
 split at h
 case isFalse=>simp at h
 rename_i h0
 obtain ⟨J,inf,s,W,_⟩:=zBF (T.hels _ (zAc ht))
 obtain ⟨M,_⟩:=(zAm F.env hi).flat_inv
 have X:a.eval x = σ n:=by
  have:=zAm F.env hx
  generalize a.eval x=v at this
  cases this with
  | own=>rfl
  | d I=>cases I
 have hlen:i.toNat<xs.length:=(lF.1 h).1
 obtain ⟨_,_,⟨g1,_⟩ | ⟨b,us,cap,Fs,H,_⟩⟩:=F.inv.ok n _ (zAl hb)
 ·subst g1;simp at B;omega
 rw [B] at H
 have L:i<(xs.length:Int):=by omega
 have C:(execOp a.eval o).run G.P w=.ok (.value (.pointer (some ⟨b,i.toNat*size,none⟩))) w:=by
  simp [execOp,ho,X,H,M,Instr.indexAt,asIntOf,run_underlying J,h0,L,sizeOf,typeInfo,s,W,zCZ]
 unfold Oper.wp
 rw [C,Oper.upon_value,I]
 exact k y hy r hr _ _ ⟨σ,φ,F.put (zCS Q) (.ela (off:=0) (zHV H))⟩
theorem zP4 {P:Program} {g:Bool} (W:zc2 P t=some (g,n)) {q:PV} {ad:Addr} {cs:List PV} (J:∀(k:Nat) (c:PV),cs[k]? = some c->∃x,w.cell? (ad.add k)=some x/\R σ w D c x)
  (f:zNW g n cs=some q):∃x,(Instr.loadAt t (.pointer (some ad))).run P w=.ok x w/\R σ w D q x:=by
 obtain ⟨I,L⟩:=zIi (w:=w) W
 cases g with
 | false =>
  simp only [zNW] at f
  rw [zKX] at f
  obtain ⟨x,hx,H⟩:=J 0 _ f
  simp only [Addr.add,if_true] at hx
  exact ⟨x,by simp [Instr.loadAt,Instr.sureAddr,loadVar,I,hx],H⟩
 | true =>
  simp only [zNW] at f
  split at f<;>simp at f
  rename_i l Q
  subst f
  obtain ⟨C,F⟩:=zUh Q
  obtain ⟨us,b,h⟩:=zTC (cs:=l) (ad:=ad) (fun k c s=>J k c (by
   rw [C,lV] at s
   split at s
   ·exact s
   ·simp at s))
  refine ⟨.agg ⟨us⟩,?_,.agg b.symm fun i c x B hx=>(h i x hx).2 c B⟩
  have:=run_loadCells_list (P:=P) w ad us (fun j v M=>(h j v M).1)
  rw [b,F] at this
  simp [Instr.loadAt,Instr.sureAddr,loadVar,I,L,this]
theorem zHe {l:List α} {f : α -> β} {y : α} (h:l[i]? = some y):(l.map f)[i]? = some (f y):=by simp [h]
theorem zSD {hdr:Value} (h:zHQ w D hdr fp e size kc ke rows) (hr:rows[i]? = some r) :
  ∃(b:Nat) (us:List Value) (cap:Nat) (f:Nat->Nat->Prop),hdr=.slice (some ⟨b,0,none⟩) rows.length cap/\(∀x,fp x↔x=b\/∃i,i<rows.length/\f i x)/\(∀i,i<rows.length->¬f i b) /\
     (∀i j,i<rows.length->j<rows.length->i≠j->∀x,f i x->¬f j x)/\us.length=cap*size/\(rows.length<=cap/\0<cap)/\cap<=maxLen/\w.heap[b]? = some (.cells ⟨us⟩ (e % zLI) (0,0)) /\
     (∀(i:Nat) (r:List PV×Bool),rows[i]? = some r->(r.2=false->∀x,¬f i x)/\∀(k:Nat) (c:PV) (u:Value),r.1[k]? = some c->us[i*size+k]? = some u->zPD w D (f i) ke (r.2=true/\k=kc) c u) /\
     (∀k,k<size->i*size+k<us.length)/\r.1.length=size/\i<rows.length/\kc<size:=by
 obtain ⟨W,s,⟨rfl,_⟩ | ⟨b,us,cap,f,B,C,F,H,I,J,L,M,Q⟩⟩:=h
 ·simp at hr
 ·have hi:=(lF.1 hr).1
  refine ⟨b,us,cap,f,B,C,F,H,I,J,L,M,Q,fun k X=>?_,W _ (lU hr),hi,s⟩
  have:(i+1)*size<=cap*size:=lO _ (by omega)
  rw [lP] at this
  omega
theorem zEj {T:Tab G.P} {off sz:Nat} {g:Bool} {q:PV} {d:Nat} {L:List PV×Bool} (M:rows[i]? = some L) (H:o.op=.load t x) (hg:gE all E o=some true) (hx:ev E x=some (.ela n size i off))
  (hb:lkS S n=some (.tre e size kc ke rows)) (ht:lku T.tys t=some (g,sz)) (hq:zNW g sz ((L.1.set kc .junk).drop off)=some q) (C:o.dst=some d) (f:lB d G.fn.ntmps=true) (k:PO G m all rest K ((d,q)::E) S):PO G m all (o::rest) K E S:=by
 refine zDu hg (fun σ φ w a Q=>?_) C f k
 obtain ⟨b,us,cap,Fs,g1,g2,g3,g4,g5,g6,g7,g8,g9,s,B,g12,g13⟩:=zSD (Q.inv.ok n _ (zAl hb)) M
 have J:a.eval x=.pointer (some ⟨b,i*size+off,none⟩):=by
  have:=zAm Q.env hx
  generalize a.eval x=u at this
  cases this with
  | ela I=>rw [zHV g1] at I;simp at I;subst I;rfl
  | d C=>cases C
 obtain ⟨z,h1,h2⟩:=zP4 (P:=G.P) (σ := σ) (w:=w) (D:=Dof G.X φ w S) (T.htys _ (zAc ht)) (ad:=⟨b,i*size+off,none⟩) (fun j c h=>by
  rw [cD] at h
  have f:=(lF.1 h).1
  rw [eE,B] at f
  have W:=lC (s (off+j) f)
  refine ⟨us[i*size+(off+j)]'(s _ f),by rw [zCZ,zBN g8,Nat.add_assoc];exact W,?_⟩
  by_cases F:off+j=kc
  ·rw [<- F,gB (by omega)] at h
   cases h;exact .junk
  ·rw [gN (Ne.symm F)] at h
   rcases ((g9 i L M).2 _ c _ h W).2 (fun H=>F H.2) with rfl | hr
   ·exact .junk
   ·exact .d hr) hq
 unfold zCG
 rw [show (execOp a.eval o).run G.P w=.ok (.value z) w by simp [execOp,H,J,h1]]
 exact ⟨rfl,h2⟩
def zfJ (kc off l:Nat):Bool:=lB kc off||Nat.ble (off+l) kc
theorem zKM {T:Tab G.P} (f : β -> List PV×Bool) (xs:List β) (x0 Q : β) {t:TypeId} {x y:Operand} {n size i off e kc ke sz:Nat} {g:Bool} {p:PV} {cs:List PV} {S':zAC}
  (h0:xs[i]? = some x0) (ho:o.op=.store t x y) (hg:gE all E o=some true) (hx:ev E x=some (.ela n size i off)) (hb:lkS S n=some (.tre e size kc ke (xs.map f))) (hy:ev E y=some p) (hcs:zOb p=some cs) (hone:cs.all zGd=true) (hdat:cs.all zXq=true)
  (ht:lku T.tys t=some (g,sz)) (M:lA cs.length sz=true) (L:zfJ kc off cs.length=true) (hov:ovr (f x0).1 off cs=some (f Q).1) (hfl:(f Q).2=(f x0).2) (hd:o.dst=none) (hS:zOD n (.tre e size kc ke ((xs.set i Q).map f)) S=some S') (k:PO G m all rest K E S'):PO G m all (o::rest) K E S:=by
 refine zGT hg fun r hr a w ⟨σ,φ,hp⟩=>?_
 have H:=zAl hb
 have M:=lQ M
 have J:zHQ w (Dof G.X φ w S) (σ n) (φ n) e size kc ke (xs.map f):=hp.inv.ok n _ H
 obtain ⟨b,us0,cap,Fs,g1,g2,g3,g4,g5,g6,g7,g8,g9,g10,g11,I,g13⟩:=zSD J (zHe (f:=f) h0)
 have hxv:a.eval x=.pointer (some ⟨b,i*size+off,none⟩):=by
  have:=zAm hp.env hx
  generalize a.eval x=u at this
  cases this with
  | ela hs=>rw [zHV g1] at hs;simp at hs;subst hs;rfl
  | d hd=>cases hd
 obtain ⟨us,c1,W,c3⟩:=zKu hcs (zAm hp.env hy)
 obtain ⟨o1,o2,o3⟩:=zS9 hov
 have hlt:i<xs.length:=by simpa using I
 have hend:off+cs.length<=size:=by rw [<- g11];exact o2
 have hin:i*size+off+us.length<=us0.length:=by
  rw [W]
  have h5:(i+1)*size<=cap*size:=lO _ (by omega)
  rw [lP] at h5
  omega
 obtain ⟨w',cur',s1,s2,s3,s4,s5,s6,s7,s8,s9⟩:=zH7 (P:=G.P) b (i*size+off) (e % zLI) (0,0) us 0 us0 w g8 (by simp) (by omega) (zWW W c3 hone)
 have hrun:(execOp a.eval o).run G.P w=.ok .skip w':=by
  simp only [execOp,ho,hxv,Sem.run_bind,zLt (T.htys _ (zAc ht)) c1 (W.trans M),s1,Result.andThen_ok,Sem.run_pure]
 unfold Oper.wp
 rw [hrun,Oper.upon_skip,hd]
 refine k r hr _ _ ⟨σ,φ,hp.turn H hS s5 (fun c C=>s6 c fun e=>C ((g2 c).2 (.inl e))) s7 s8 s9 fun D' hD=>?_⟩
 have hx1:(f Q).1.length=size:=by rw [o1,g11]
 have hFb:∀x,(∃i,i<(xs.map f).length/\Fs i x)->w'.heap[x]? = w.heap[x]? := fun x ⟨j,hj,hx⟩=>s6 x fun e=>g3 j hj (e▸hx)
 have nx:∀(j:Nat) own c u,j<(xs.map f).length->zPD w (Dof G.X φ w S) (Fs j) ke own c u->zPD w' D' (Fs j) ke own c u:=fun j own c u hj ⟨a1,a2⟩ =>
  ⟨fun h=>let ⟨ks,rws,q1,q2⟩:=a1 h;⟨ks,rws,q1,q2.next hD fun x hx=>hFb x ⟨j,hj,hx⟩⟩,fun h=>(a2 h).imp id fun h=>h.mono hD⟩
 have B:((xs.set i Q).map f).length=(xs.map f).length:=by simp
 refine ⟨fun r' s=>?_,g13,.inr ⟨b,cur',cap,Fs,by rw [B];exact g1,by rw [B];exact g2,by rw [B];exact g3,by rw [B];exact g4,by rw [s3,g5],by rw [B];exact g6,g7,s2,fun j r' s=>?_⟩⟩
 ·rw [dK] at s
  rcases dT s with h | h
  ·exact J.1 _ h
  ·subst h;exact hx1
 ·have hj:j<(xs.map f).length:=by rw [<- B];exact (lF.1 s).1
  rw [dK] at s
  by_cases hij:i=j
  ·subst hij
   rw [gB I] at s
   cases s
   obtain ⟨q1,q2⟩:=g9 i _ (zHe (f:=f) h0)
   refine ⟨fun h=>q1 (hfl▸h),fun kk c u C F=>?_⟩
   rw [s4 (i*size+kk)] at F
   simp only [cH,W] at F
   rw [o3] at C
   have hkk:kk<size:=by
    rw [<- hx1]
    have:=(lF.1 (by rw [o3];exact C:(f Q).1[kk]? = some c)).1
    exact this
   split at C
   ·rename_i hin'
    rw [iP (by omega),show i*size+kk - (i*size+off)=kk - off by omega] at F
    have hkc:kk≠kc:=fun e=>by
     unfold zfJ at L
     rw [dD] at L
     rcases L with h | h
     ·have:=zCS h;omega
     ·have:=cZ h;omega
    exact ⟨fun h=>absurd h.2 hkc,fun _=>.inr (((c3 _ c u C F).toRD (lR.1 hdat c (lU C))).mono hD)⟩
   ·rename_i hin'
    rw [iN (by omega)] at F
    have:=nx i _ c u I (q2 kk c u C F)
    rw [hfl];exact this
  ·rw [gN hij] at s
   obtain ⟨q1,q2⟩:=g9 j r' s
   refine ⟨q1,fun kk c u C F=>?_⟩
   have hkk:kk<size:=by rw [<- J.1 _ (lU s)];exact (lF.1 C).1
   rw [s4 (j*size+kk),iN (by
    simp only [cH,W]
    intro ⟨ha,hb'⟩
    rcases lY j i with h | h
    ·have:(j+1)*size<=i*size:=lO _ (by omega)
     rw [lP] at this;omega
    ·have:(i+1)*size<=j*size:=lO _ (by omega)
     rw [lP] at this;omega)] at F
   exact nx j _ c u hj (q2 kk c u C F)
def zSd (b:Bool):Option Unit:=if b then some () else none
theorem zd3 {b:Bool} {u:Unit} (h:zSd b=some u):b=true:=by cases b<;>simp [zSd] at h ⊢
theorem zeF {T:Tab G.P} {f:Unit->Option ρ} (F:Nat) {t:TypeId} {x:Operand} {n size i e kc ke ks d:Nat} {own:Bool} {rows:List (List PV×Bool)} {row:List PV} {L:List (List PV)} {E':Env} {S1 S':zAC} (h0:rows[i]? = some (row,own)) (ho:o.op=.load t x) (hg:gE all E o=some true) (hx:ev E x=some (.ela n size i kc))
  (hb:lkS S n=some (.tre e size kc ke rows)) (ht:lku T.tys t=some (false,1)) (hc:zVf row kc=some (.sl ks false L)) (hd:o.dst=some d) (hlt:lB d G.fn.ntmps=true) (hn:zEY G F=true) (hmm:(S.map (·.1)).any (lA F)=false) (hE:zFh F E=some E') (hS1:zEx F S=some S1)
  (hS:zOD n (.tre e size kc ke (rows.set i (row.set kc .junk,false))) S1=some S') (k:∀r,f ()=some r->∀a w σ φ,Pre' G ((d,.own F)::E') ((F,.arr ke ks L)::S') a w σ φ -> zQP w (σ n) (i*size+kc)=some (σ F)->wpList G.P all (kwp G r K) rest a w):PO G (bnd (zSd own) f) all (o::rest) K E S:=by
 refine zGJ fun u hu=>zGT hg fun r hr a w ⟨σ,φ,hp⟩=>?_
 have hown:=zd3 hu
 subst hown
 have C:=zAl hb
 have hok:zHQ w (Dof G.X φ w S) (σ n) (φ n) e size kc ke rows:=hp.inv.ok n _ C
 obtain ⟨b,us,cap,Fs,g1,g2,g3,g4,g5,g6,g7,g8,g9,g10,g11,g12,g13⟩:=zSD hok h0
 simp only at g11
 have hmn:∀x W,(x,W)∈S->x≠F:=fun x W hm H=>by
  subst H
  have:(S.map (·.1)).any (lA x)=true:=zBE.2 (lE.2 ⟨_,hm,rfl⟩)
  rw [hmm] at this;cases this
 have hnm:=hmn n _ C
 have hxv:a.eval x=.pointer (some ⟨b,i*size+kc,none⟩):=by
  have:=zAm hp.env hx
  generalize a.eval x=u at this
  cases this with
  | ela hs=>rw [zHV g1] at hs;simp at hs;subst hs;rfl
  | d hd=>cases hd
 rw [zKX] at hc
 have hul:=lC (g10 kc g13)
 obtain ⟨v,hv⟩:∃v,v=us[i*size+kc]'(g10 kc g13):=⟨_,rfl⟩
 rw [<- hv] at hul
 obtain ⟨ks',rws',e1,harr⟩:=((g9 i _ h0).2 kc _ v hc hul).1 ⟨rfl,rfl⟩
 cases e1
 have hrun:(execOp a.eval o).run G.P w=.ok (.value v) w:=by
  obtain ⟨q1,_⟩:=zIi (w:=w) (T.htys _ (zAc ht))
  have:w.cell? ⟨b,i*size+kc,none⟩=some v:=by rw [zBN g8];exact hul
  simp [execOp,ho,hxv,Instr.loadAt,Instr.sureAddr,loadVar,q1,this]
 have hsm:=zVY hS1
 have hnd1:(S1.map (·.1)).Nodup:=(zLl hS1).nodup hp.inv.nodup
 have hmem1:=zQr hnd1 hS
 have hhdr:zKK v=true:=by
  obtain ⟨_,⟨_,⟨ao,q⟩,_⟩ | ⟨b',_,_,q,_⟩⟩:=harr<;>(rw [q];rfl)
 unfold Oper.wp
 rw [hrun,Oper.upon_value,hd]
 obtain ⟨M,hσ2⟩:∃M,M=upd σ F v:=⟨_,rfl⟩
 obtain ⟨Q,hφ2⟩:∃Q:Nat->Nat->Prop,Q=upd (upd φ n fun x => φ n x/\¬Fs i x) F (Fs i):=⟨_,rfl⟩
 have s1 : M F=v:=by rw [hσ2,zAw]
 have s2:∀x,x≠F -> M x = σ x:=fun x hx=>by rw [hσ2,zHk _ _ hx]
 have p1 : Q F=Fs i:=by rw [hφ2,zAw]
 have p2 : Q n=fun x => φ n x/\¬Fs i x:=by rw [hφ2,zHk _ _ hnm,zAw]
 have p3:∀x,x≠F->x≠n -> Q x = φ x:=fun x J I=>by rw [hφ2,zHk _ _ J,zHk _ _ I]
 have hFi:∀x,Fs i x -> φ n x:=fun x hx=>(g2 x).2 (.inr ⟨i,g12,hx⟩)
 -- who is who in the new store
 have hwho:∀x W,(x,W)∈((F,Blk.arr ke ks L)::S')->(x=F/\W=.arr ke ks L)\/(x=n/\W=.tre e size kc ke (rows.set i (row.set kc .junk,false)))\/(x≠F/\x≠n/\∃k0,(x,k0)∈S/\ze0 [F] k0 W):=fun x W hm=>by
  rcases lD.1 hm with H | hm
  ·cases H;exact .inl ⟨rfl,rfl⟩
  ·rcases hmem1 x W hm with ⟨J,I⟩ | ⟨J,I⟩
   ·exact .inr (.inl ⟨J,I⟩)
   ·obtain ⟨q1,k0,q2,q3⟩:=hsm x W J
    exact .inr (.inr ⟨q1,I,k0,q2,q3⟩)
 have hp2:Pre' G E' ((F,.arr ke ks L)::S') a w M Q:=by
  refine hp.redo (w':=w) rfl rfl rfl (cB _) ?_ (fun y hf=>.inl ?_) (fun _ _ _=>rfl) ?_ (fun x W hm D' hD=>?_) (fun t' p' ht'=>?_) (fun x hx=>?_)
  ·rw [lT,lS,zNC hS]
   refine ⟨fun h=>?_,hnd1⟩
   obtain ⟨⟨x,W⟩,J,I⟩:=lE.1 h
   exact (hsm x W J).1 I
  ·obtain ⟨x,W,hm,hf⟩:=hf
   rcases hwho x W hm with ⟨rfl,_⟩ | ⟨rfl,_⟩ | ⟨J,I,k0,h3,_⟩
   ·rw [p1] at hf;exact ⟨n,_,C,hFi y hf⟩
   ·rw [p2] at hf;exact ⟨_,_,C,hf.1⟩
   ·rw [p3 x J I] at hf;exact ⟨x,k0,h3,hf⟩
  ·intro x y kx ky hx hy hne z s B
   rcases hwho x kx hx with ⟨rfl,_⟩ | ⟨rfl,_⟩ | ⟨J,I,k0,h3,_⟩<;>rcases hwho y ky hy with ⟨rfl,_⟩ | ⟨rfl,_⟩ | ⟨h1',h2',k0',h3',_⟩
   ·exact hne rfl
   ·rw [p1] at s;rw [p2] at B;exact B.2 s
   ·rw [p1] at s;rw [p3 y h1' h2'] at B;exact hp.inv.disj n y _ _ C h3' (Ne.symm h2') z (hFi z s) B
   ·rw [p1] at B;rw [p2] at s;exact s.2 B
   ·exact hne rfl
   ·rw [p2] at s;rw [p3 y h1' h2'] at B;exact hp.inv.disj _ y _ _ C h3' (Ne.symm h2') z s.1 B
   ·rw [p1] at B;rw [p3 x J I] at s;exact hp.inv.disj x n _ _ h3 C I z s (hFi z B)
   ·rw [p2] at B;rw [p3 x J I] at s;exact hp.inv.disj x _ _ _ h3 C I z s B.1
   ·rw [p3 x J I] at s;rw [p3 y h1' h2'] at B;exact hp.inv.disj x y _ _ h3 h3' hne z s B
  ·rcases hwho x W hm with ⟨rfl,rfl⟩ | ⟨rfl,rfl⟩ | ⟨J,I,k0,h3,h4⟩
   ·rw [s1,p1];exact harr.next hD fun _ _=>rfl
   ·rw [s2 _ hnm,p2]
    obtain ⟨FF,hFF⟩:∃FF:Nat->Nat->Prop,FF=fun j=>if j=i then fun _=>False else Fs j:=⟨_,rfl⟩
    have f1:FF i=fun _=>False:=by rw [hFF];exact iP rfl
    have f2:∀j,j≠i->FF j=Fs j:=fun j hj=>by rw [hFF];exact iN hj
    refine ⟨fun r' hr'=>?_,g13,.inr ⟨b,us,cap,FF,by simpa using g1,fun y=>?_,fun j hj=>?_,fun j j' hj hj' hne y hy=>?_,g5,by simpa using g6,g7,g8,fun j r' hr'=>?_⟩⟩
    ·rcases dT hr' with h | h
     ·exact hok.1 _ h
     ·subst h;simpa using g11
    ·constructor
     ·rintro ⟨J,I⟩
      rcases (g2 y).1 J with h | ⟨j,hj,hy⟩
      ·exact .inl h
      ·refine .inr ⟨j,by simpa using hj,?_⟩
       rw [f2 j (fun H=>I (H▸hy))];exact hy
     ·rintro (rfl | ⟨j,hj,hy⟩)
      ·exact ⟨(g2 _).2 (.inl rfl),g3 i g12⟩
      ·by_cases H:j=i
       ·rw [H,f1] at hy;exact hy.elim
       ·rw [f2 j H] at hy
        exact ⟨(g2 y).2 (.inr ⟨j,by simpa using hj,hy⟩),g4 j i (by simpa using hj) g12 H y hy⟩
    ·by_cases H:j=i
     ·rw [H,f1];exact fun h=>h
     ·rw [f2 j H];exact g3 j (by simpa using hj)
    ·by_cases H:j=i
     ·rw [H,f1] at hy;exact hy.elim
     ·rw [f2 j H] at hy
      by_cases e'':j'=i
      ·rw [e'',f1];exact fun h=>h
      ·rw [f2 j' e''];exact g4 j j' (by simpa using hj) (by simpa using hj') hne y hy
    ·by_cases H:j=i
     ·subst H
      rw [gB g12] at hr'
      cases hr'
      refine ⟨fun _ y h=>by rw [f1] at h;exact h,fun kk c u hc' hu=>⟨fun h=>(by cases h.1),fun _=>?_⟩⟩
      by_cases hk:kk=kc
      ·subst hk
       rw [gB (by omega)] at hc'
       cases hc';exact .inl rfl
      ·simp only at hc'
       rw [gN (Ne.symm hk)] at hc'
       exact (((g9 j _ h0).2 kk c u hc' hu).2 (fun h=>hk h.2)).imp id fun h=>h.mono hD
     ·rw [gN (Ne.symm H)] at hr'
      obtain ⟨q1,q2⟩:=g9 j r' hr'
      rw [f2 j H]
      refine ⟨q1,fun kk c u hc' hu=>?_⟩
      obtain ⟨a1,a2⟩:=q2 kk c u hc' hu
      exact ⟨fun h=>let ⟨ks,L,q1,q2⟩:=a1 h;⟨ks,L,q1,q2.next hD fun _ _=>rfl⟩,fun h=>(a2 h).imp id fun h=>h.mono hD⟩
   ·rw [s2 x J,p3 x J I]
    exact zCT.went hD (fun _ _=>rfl) (hp.inv.ok x k0 h3) h4 fun y hy=>s2 y (by simpa using hy)
  ·exact zYA hE hp.env s2 t' p' ht'
  ·refine s2 x fun H=>?_
   subst H
   unfold zEY at hn
   rw [zBE.2 hx] at hn
   cases hn
 refine k r hr _ _ M Q (hp2.put (zCS hlt) ?_) ?_
 ·have:R M w (Dof G.X Q w ((F,Blk.arr ke ks L)::S')) (.own F) (M F):=.own (by rw [s1];exact hhdr)
  rw [s1] at this
  exact this
 ·rw [s2 _ hnm,s1,g1]
  simp only [zQP,g8]
  simpa using hul
theorem zUT {T:Tab G.P} {y:Operand} {C ks:Nat} {fl:Bool} {rows':List (List PV×Bool)} {row:List PV} {Q:List (List PV)} {S1:zAC} (h0:rows[i]? = some (row,fl)) (hrows:rows.set i (row.set kc (.sl ks false Q),true)=rows') (ho:o.op=.store t x y) (hg:gE all E o=some true) (hx:ev E x=some (.ela n size i kc))
  (hb:lkS S n=some (.tre e size kc ke rows)) (hy:ev E y=some (.own C)) (hbm:lkS S C=some (.arr ke ks Q)) (ht:lku T.tys t=some (false,1)) (hd:o.dst=none) (hE:zFh C E=some E') (hS1:zEx C S=some S1)
  (hS:zOD n (.tre e size kc ke rows') S1=some S') (k:PO G m all rest K E' S'):PO G m all (o::rest) K E S:=by
 refine zGT hg fun r hr a w ⟨σ,φ,M⟩=>?_
 subst hrows
 have B:=zAl hb
 have s:=zAl hbm
 have hok:zHQ w (Dof G.X φ w S) (σ n) (φ n) e size kc ke rows:=M.inv.ok n _ B
 have harr:zO7 w (Dof G.X φ w S) (σ C) (φ C) ke ks Q:=M.inv.ok C _ s
 have hnm:n≠C:=fun f=>by
  subst f
  have:=zOt M.inv.nodup B s
  cases this
 obtain ⟨b,us0,cap,Fs,g1,g2,g3,g4,g5,g6,g7,g8,g9,g10,g11,g12,g13⟩:=zSD hok h0
 simp only at g11
 have hxv:a.eval x=.pointer (some ⟨b,i*size+kc,none⟩):=by
  have:=zAm M.env hx
  generalize a.eval x=u at this
  cases this with
  | ela hs=>rw [zHV g1] at hs;simp at hs;subst hs;rfl
  | d hd=>cases hd
 have hyv:a.eval y = σ C:=by
  have:=zAm M.env hy
  generalize a.eval y=u at this
  cases this with
  | own=>rfl
  | d hd=>cases hd
 have hhdr:∃ao l c,σ C=.slice ao l c:=by
  obtain ⟨_,⟨_,⟨ao,q⟩,_⟩ | ⟨b',_,_,q,_⟩⟩:=harr<;>exact ⟨_,_,_,q⟩
 obtain ⟨ao,l,c,hh⟩:=hhdr
 obtain ⟨w',cur',s1,s2,s3,s4,s5,s6,s7,s8,s9⟩:=zH7 (P:=G.P) b (i*size+kc) (e % zLI) (0,0) [σ C] 0 us0 w g8 (by simp) (by have:=g10 kc g13;simp;omega) (by rw [hh];simp;rfl)
 have hrun:(execOp a.eval o).run G.P w=.ok .skip w':=by
  simp only [execOp,ho,hxv,hyv,Sem.run_bind,zLt (T.htys _ (zAc ht)) (show (σ C).cells=⟨[σ C]⟩ by rw [hh];rfl) rfl,s1,Result.andThen_ok,Sem.run_pure]
 have hsm:=zVY hS1
 have hnd1:(S1.map (·.1)).Nodup:=(zLl hS1).nodup M.inv.nodup
 have hmem1:=zQr hnd1 hS
 unfold Oper.wp
 rw [hrun,Oper.upon_skip,hd]
 obtain ⟨φ2,hφ2⟩:∃φ2:Nat->Nat->Prop,φ2=upd φ n (fun x=>(φ n x/\¬Fs i x) \/ φ C x):=⟨_,rfl⟩
 have p2 : φ2 n=fun x=>(φ n x/\¬Fs i x) \/ φ C x:=by rw [hφ2,zAw]
 have p3:∀x,x≠n -> φ2 x = φ x:=fun x H=>by rw [hφ2,zHk _ _ H]
 have hbn : φ n b:=(g2 b).2 (.inl rfl)
 have W:∀x k',(x,k')∈S'->(x=n/\k'=.tre e size kc ke (rows.set i (row.set kc (.sl ks false Q),true)))\/(x≠C/\x≠n/\∃k0,(x,k0)∈S/\ze0 [C] k0 k'):=fun x k' hm=>by
  rcases hmem1 x k' hm with ⟨h1,H⟩ | ⟨h1,H⟩
  ·exact .inl ⟨h1,H⟩
  ·obtain ⟨q1,k0,q2,q3⟩:=hsm x k' h1
   exact .inr ⟨q1,H,k0,q2,q3⟩
 have hmb:∀x,φ C x->x≠b:=fun x hx f=>M.inv.disj C n _ _ s B (Ne.symm hnm) x hx (f▸hbn)
 have hp2:Pre' G E' S' a w' σ φ2:=by
  refine M.redo s7 s8 s9 (by omega) ?_ (fun y hf=>.inl ?_) (fun y _ hf=>s6 y fun f=>hf ⟨n,_,B,f▸hbn⟩) ?_ (fun x k' hm D' hD=>?_) (fun t' p' ht'=>?_) (fun _ _=>rfl)
  ·rw [zNC hS];exact hnd1
  ·obtain ⟨x,k',hm,hf⟩:=hf
   rcases W x k' hm with ⟨rfl,_⟩ | ⟨h1,H,k0,h3,_⟩
   ·rw [p2] at hf
    rcases hf with hf | hf
    ·exact ⟨_,_,B,hf.1⟩
    ·exact ⟨_,_,s,hf⟩
   ·rw [p3 x H] at hf;exact ⟨x,k0,h3,hf⟩
  ·have one:∀x k0,(x,k0)∈S->x≠C->x≠n->∀z,φ x z->¬((φ n z/\¬Fs i z) \/ φ C z):=fun x k0 h3 h1 H z hz hh'=>by
    rcases hh' with h | h
    ·exact M.inv.disj x n _ _ h3 B H z hz h.1
    ·exact M.inv.disj x C _ _ h3 s h1 z hz h
   intro x y kx ky hx hy L z hzx hzy
   rcases W x kx hx with ⟨rfl,_⟩ | ⟨h1,H,k0,h3,_⟩<;>rcases W y ky hy with ⟨rfl,_⟩ | ⟨h1',h2',k0',h3',_⟩
   ·exact L rfl
   ·rw [p2] at hzx;rw [p3 y h2'] at hzy;exact one y k0' h3' h1' h2' z hzy hzx
   ·rw [p2] at hzy;rw [p3 x H] at hzx;exact one x k0 h3 h1 H z hzx hzy
   ·rw [p3 x H] at hzx;rw [p3 y h2'] at hzy;exact M.inv.disj x y _ _ h3 h3' L z hzx hzy
  ·rcases W x k' hm with ⟨rfl,rfl⟩ | ⟨h1,H,k0,h3,h4⟩
   ·rw [p2]
    obtain ⟨FF,hFF⟩:∃FF:Nat->Nat->Prop,FF=fun j=>if j=i then φ C else Fs j:=⟨_,rfl⟩
    have f1:FF i = φ C:=by rw [hFF];exact iP rfl
    have f2:∀j,j≠i->FF j=Fs j:=fun j J=>by rw [hFF];exact iN J
    have hFb:∀j y,j<rows.length->Fs j y->w'.heap[y]? = w.heap[y]? := fun j y J hy=>s6 y fun f=>g3 j J (f▸hy)
    refine ⟨fun r' I=>?_,g13,.inr ⟨b,cur',cap,FF,by simpa using g1,fun y=>?_,fun j J=>?_,fun j j' J hj' L y hy=>?_,by rw [s3,g5],by simpa using g6,g7,s2,fun j r' I=>?_⟩⟩
    ·rcases dT I with h | h
     ·exact hok.1 _ h
     ·subst h;simpa using g11
    ·constructor
     ·rintro (⟨h1,H⟩ | h)
      ·rcases (g2 y).1 h1 with h | ⟨j,J,hy⟩
       ·exact .inl h
       ·refine .inr ⟨j,by simpa using J,?_⟩
        rw [f2 j (fun f=>H (f▸hy))];exact hy
      ·exact .inr ⟨i,by simpa using g12,by rw [f1];exact h⟩
     ·rintro (rfl | ⟨j,J,hy⟩)
      ·exact .inl ⟨hbn,g3 i g12⟩
      ·by_cases f:j=i
       ·rw [f,f1] at hy;exact .inr hy
       ·rw [f2 j f] at hy
        exact .inl ⟨(g2 y).2 (.inr ⟨j,by simpa using J,hy⟩),g4 j i (by simpa using J) g12 f y hy⟩
    ·by_cases f:j=i
     ·rw [f,f1];exact fun h=>hmb b h rfl
     ·rw [f2 j f];exact g3 j (by simpa using J)
    ·have one:∀j y,j<rows.length->Fs j y->¬φ C y:=fun j y J hy hm'=>M.inv.disj C _ _ _ s B (Ne.symm hnm) y hm' ((g2 y).2 (.inr ⟨j,J,hy⟩))
     by_cases f:j=i
     ·rw [f,f1] at hy
      rw [f2 j' (fun e''=>L (f.trans e''.symm))]
      exact fun h=>one j' y (by simpa using hj') h hy
     ·rw [f2 j f] at hy
      by_cases e'':j'=i
      ·rw [e'',f1];exact one j y (by simpa using J) hy
      ·rw [f2 j' e''];exact g4 j j' (by simpa using J) (by simpa using hj') L y hy
    ·have hj0:j<rows.length:=by have:=(lF.1 I).1;simpa using this
     have hat:∀kk,kk<size->(j≠i\/kk≠kc)->cur'[j*size+kk]? = us0[j*size+kk]? := fun kk hkk L=>by
      rw [s4 (j*size+kk),iN]
      simp only [eF]
      intro ⟨ha,hb'⟩
      have e1:j*size+kk=i*size+kc:=by omega
      rcases dO j i with h | h | h
      ·have:(j+1)*size<=i*size:=lO _ (by omega)
       rw [lP] at this;omega
      ·subst h
       rcases L with h | h
       ·exact h rfl
       ·omega
      ·have:(i+1)*size<=j*size:=lO _ (by omega)
       rw [lP] at this;omega
     by_cases f:j=i
     ·subst f
      rw [gB g12] at I
      cases I
      refine ⟨fun h=>(by cases h),fun kk c u F hu=>?_⟩
      simp only at F
      rw [f1]
      by_cases hk:kk=kc
      ·subst hk
       rw [gB (by omega)] at F
       cases F
       rw [s4 (j*size+kk),iP (by simp)] at hu
       simp at hu
       subst hu
       exact ⟨fun _=>⟨ks,Q,rfl,harr.next hD fun y hy=>s6 y (hmb y hy)⟩,fun h=>absurd ⟨rfl,rfl⟩ h⟩
      ·have hkk:kk<size:=by rw [<- g11];have:=(lF.1 F).1;simpa using this
       rw [gN (Ne.symm hk)] at F
       rw [hat kk hkk (.inr hk)] at hu
       exact ⟨fun h=>absurd h.2 hk,fun _=>(((g9 j _ h0).2 kk c u F hu).2 (fun h=>hk h.2)).imp id fun h=>h.mono hD⟩
     ·rw [gN (Ne.symm f)] at I
      obtain ⟨q1,q2⟩:=g9 j r' I
      rw [f2 j f]
      refine ⟨q1,fun kk c u F hu=>?_⟩
      have hkk:kk<size:=by rw [<- hok.1 _ (lU I)];exact (lF.1 F).1
      rw [hat kk hkk (.inl f)] at hu
      obtain ⟨a1,a2⟩:=q2 kk c u F hu
      exact ⟨fun h=>let ⟨ks,Q,q1,q2⟩:=a1 h;⟨ks,Q,q1,q2.next hD fun y hy=>hFb j y hj0 hy⟩,fun h=>(a2 h).imp id fun h=>h.mono hD⟩
   ·rw [p3 x H]
    exact zCT.went hD (fun y hy=>s6 y fun f=>M.inv.disj x n _ _ h3 B H y hy (f▸hbn)) (M.inv.ok x k0 h3) h4 fun _ _=>rfl
  ·exact zYA hE M.env (fun _ _=>rfl) t' p' ht'
 exact k r hr _ _ ⟨σ,φ2,hp2⟩
theorem zT7 {l:List α} {f : α -> List PV×Bool} (x : α) {v:List PV×Bool} (h:v=f x):((l.map f).set i r).set i v=(l.set i x).map f:=by rw [List.set_set,dK,h]
theorem zdf {l:List α} {f : α -> List PV×Bool} (x : α) {v:List PV×Bool} (h:v=f x):(l.map f).set i v=(l.set i x).map f:=by rw [dK,h]
theorem zW2 {l:List α} {f : α -> List PV×Bool} {y : α} (h:l[i]? = some y):((l.map f).set i r)[i]? = some r:=gB (by simpa using (lF.1 h).1)
theorem zhI (he:lB e zLI=true) (h:zHQ w D v fp e size kc ke rows):∃(J:List Value) (f:Nat->Nat->Prop),zcu w e size v rows.length J /\
  (∀x,fp x↔zNY v=some x\/∃i,i<rows.length/\f i x)/\(∀i,i<rows.length->∀x,f i x->zNY v≠some x)/\(∀i j,i<rows.length->j<rows.length->i≠j->∀x,f i x->¬f j x) /\
  ∀(i:Nat) (r:List PV×Bool),rows[i]? = some r->(r.2=false->∀x,¬f i x)/\∀(k:Nat) (c:PV) (u:Value),r.1[k]? = some c->J[i*size+k]? = some u->zPD w D (f i) ke (r.2=true/\k=kc) c u:=by
 obtain ⟨h0,hkc,⟨rfl,⟨L,rfl⟩,h3⟩ | ⟨b,us,cap,f,rfl,Q,W,X,F,B,g7,H,I⟩⟩:=h
 ·refine ⟨[],fun _ _=>False,?_,fun x=>by simp [zNY,h3 x],fun _ _ _ h=>h.elim,fun _ _ _ _ _ _ h=>h.elim,fun i r hr=>by simp at hr⟩
  cases L with
  | none=>exact .inl ⟨⟨by simp,.inl ⟨rfl,rfl⟩⟩,rfl⟩
  | some a=>exact .inr ⟨rfl,rfl,a,rfl⟩
 ·rw [zIu he] at H
  have s:zNY (Value.slice (some ⟨b,0,none⟩) rows.length cap)=some b:=by rw [zPX B.2];rfl
  refine ⟨us.take (rows.length*size),f,.inl ⟨⟨?_,.inr ⟨b,cap,⟨us⟩,rfl,cG _,H,B.1,g7,F,rfl⟩⟩,zPX B.2⟩,fun x=>?_,fun i hi x hx=>?_,X,fun i r hr=>⟨(I i r hr).1,fun k c u hc C=>(I i r hr).2 k c u hc ?_⟩⟩
  ·rw [cR,F];exact Nat.min_eq_left (lO _ B.1)
  ·rw [Q x,s];simp [eq_comm]
  ·rw [s];intro M;cases M;exact W i hi hx
  ·rw [lV] at C
   split at C
   ·exact C
   ·simp at C
theorem zgb {xs:List Value} {b:Nat->Nat->Prop} (he:lB e zLI=true) (F:∀r∈rows,r.1.length=size) (s:kc<size) (h:zcu w e size v rows.length xs\/w.ownsRow 0 e size v rows.length xs)
  (X:∀i,i<rows.length->∀x,b i x->zNY v≠some x) (h4:∀i j,i<rows.length->j<rows.length->i≠j->∀x,b i x->¬b j x)
  (Q:∀(i:Nat) (r:List PV×Bool),rows[i]? = some r->(r.2=false->∀x,¬b i x)/\∀(k:Nat) (c:PV) (u:Value),r.1[k]? = some c->xs[i*size+k]? = some u->zPD w D (b i) ke (r.2=true/\k=kc) c u) :
  zHQ w D v (fun x=>zNY v=some x\/∃i,i<rows.length/\b i x) e size kc ke rows:=by
 have key:w.ownsRow 0 e size v rows.length xs->zHQ w D v (fun x=>zNY v=some x\/∃i,i<rows.length/\b i x) e size kc ke rows:=fun h=>by
  refine ⟨F,s,?_⟩
  obtain ⟨hl,h⟩:=h
  rcases h with ⟨rfl,hn⟩ | ⟨g,cap,C,rfl,_,M,H,I,h5,h6⟩
  ·have:=lZ hn
   subst this
   exact Or.inl ⟨rfl,⟨_,rfl⟩,fun x=>by simp [zNY]⟩
  ·by_cases hc:cap=0
   ·subst hc
    have L:rows.length=0:=by omega
    have:=lZ L
    subst this
    exact .inl ⟨rfl,⟨some ⟨g,0,none⟩,rfl⟩,fun x=>by simp [zNY]⟩
   ·have B:zNY (Value.slice (some ⟨g,0,none⟩) rows.length cap)=some g:=by rw [zPX (by omega)];rfl
    refine .inr ⟨g,C.toList,cap,b,rfl,fun x=>by rw [B];simp [eq_comm],fun i hi hx=>X i hi g hx B,h4,by simpa using h5,⟨H,by omega⟩,I,by rw [zIu he];exact M,fun i r hr=>⟨(Q i r hr).1,fun k c u f hu=>(Q i r hr).2 k c u f ?_⟩⟩
    have hi:=(lF.1 hr).1
    have hk:k<size:=by rw [<- F r (lU hr)];exact (lF.1 f).1
    have J:i*size+k<rows.length*size:=by
     have:(i+1)*size<=rows.length*size:=lO _ (by omega)
     rw [lP] at this;omega
    rw [<- h6,lV,iP J];exact hu
 rcases h with (⟨h,_⟩ | ⟨W,M,a,rfl⟩) | h
 ·exact key h
 ·have:=lZ W
  subst this
  exact ⟨F,s,.inl ⟨rfl,⟨_,rfl⟩,fun x=>by simp [zNY]⟩⟩
 ·exact key h
def NewRow (kc ks:Nat) (sr:List PV) (b:List PV×Bool):Prop:=(b.2=false/\b.1=sr)\/(b.2=true/\zVf sr kc=some (.v (.slice none 0 0))/\b.1=sr.set kc (.sl ks false []))
theorem zUS {T:Tab G.P} {f:Unit->Option ρ} (L:Nat) {rows rows':List (List PV×Bool)} (sr:List PV) (nr:List PV×Bool) (ks:Nat) {args:Array Operand} {tys:Array TypeId} {t n e size kc ke by_:Nat} {x y:Operand} {q:PV} {z:Value} {d:Nat}
  {E':Env} {S':zAC} (hL:rows.length=L) (hrows:rows++[nr]=rows') (hnr:NewRow kc ks sr nr) (he:lB e zLI=true) (ho:o.op=.call ⟨.builtin .append,args,tys⟩) (h1:args.toList=[x,y]) (h2:tys.toList=[t,t]) (hg:gE all E o=some true) (hx:ev E x=some (.own n)) (I:lkS S n=some (.tre e size kc ke rows))
  (hy:ev E y=some q) (hs:zg9 S q=some (size,[sr])) (ht:lku T.els t=some (e,size,by_)) (hz:lku T.zeros e=some z) (hzs:z.cells.size=size) (hs0:lB 0 size=true) (hb0:lB 0 by_=true)
  (hone:sr.all zGd=true) (hd:o.dst=some d) (hlt:lB d G.fn.ntmps=true) (hn:zEY G n=true) (hE:zFh n E=some E') (hS:zEx n S=some S')
  (k:PO G (f ()) all rest K ((d,.own n)::E') ((n,.tre e size kc ke rows')::S')):PO G (bnd (zDI by_ (L+1)) f) all (o::rest) K E S:=by
 refine zGJ fun u hu=>zGT hg fun r hr a w ⟨σ,φ,hp⟩=>?_
 subst hL hrows
 have C:=zUa hu
 have B:=zAl I
 have M:zHQ w (Dof G.X φ w S) (σ n) (φ n) e size kc ke rows:=hp.inv.ok n _ B
 obtain ⟨W,Fs,own,hfp,hF3,hF4,hxs⟩:=zhI he M
 have hkc:=M.2.1
 have hxv:a.eval x = σ n:=by
  have:=zAm hp.env hx
  generalize a.eval x=v at this
  cases this with
  | own=>rfl
  | d hd=>cases hd
 obtain ⟨hys,hsrc⟩:=zcK hp.inv hs (zAm hp.env hy)
 have hsr:sr.length=size:=hys sr (by simp)
 obtain ⟨hel,inf,Q,hsz,hby⟩:=zBF (T.hels _ (zAc ht))
 have hz':=T.hzeros _ (zAc hz)
 simp only [Q,gA] at hz'
 have hby0:=zCS hb0
 have hs0':=zCS hs0
 have hrun:∃J w' s,(execOp a.eval o).run G.P w=.ok (.value J) w'/\(zcu w' e size J (rows.length+1) (W++s)\/w'.ownsRow 0 e size J (rows.length+1) (W++s))/\w'.heap.size=w'.heap.size/\w.grownBy w' (zNY (σ n)) /\
   (∀(i:Nat) (c:PV) (x:Value),sr[i]? = some c->s[i]? = some x->RD w (Dof G.X φ w S) c x)/\∀b,zNY J=some b->(zNY (σ n)=some b\/w.heap.size<=b)/\b<w'.heap.size:=by
  obtain ⟨args⟩:=args
  obtain ⟨tys⟩:=tys
  simp only at h1 h2
  subst h1 h2
  have hex:∀J w',(Builtin.append_ #[t,t] o.type #[σ n,a.eval y]).run G.P w=.ok J w'->(execOp a.eval o).run G.P w=.ok (.value J) w':=fun J w' h=>by
   simp [execOp,ho,resolve,invoke,builtin,hxv,h]
  rcases hsrc with ⟨h3,c,h4⟩ | ⟨ad,c,s,h3,h4,h5,h6⟩
  ·cases h3
  ·simp only [eF] at h3 h4
   simp only [List.flatten_cons,List.flatten_nil,gI] at h6
   have hlen:rows.length+1<=140737488355328:=Nat.le_trans (Nat.le_mul_of_pos_right _ hby0) C
   have hn1:∀u∈s,u.oneCell'=true:=by
    intro u hu
    obtain ⟨i,hi,rfl⟩:=gO.1 hu
    have hi':i<sr.length:=by omega
    exact zOa (σ := σ) (.d (h6 i _ _ (lC hi') (lC hi))) (lR.1 hone _ (gC hi'))
   rcases own with ⟨own,hob⟩ | ⟨k0,x0,a0,hv⟩
   rotate_left
   ·subst x0
    obtain ⟨J,w',g1,g2,g3⟩:=run_append_arg_grows (P:=G.P) w t o.type e inf z size by_ hel Q hz' hsz hby hzs hs0' a0 0 0 [] (by simp) (fun j u h=>by simp at h) ad 1 c s h4 h5 (by omega) (by simp only [maxLen];omega) (by rw [k0] at C;exact C)
    refine ⟨J,w',s,hex _ _ (by rw [h3,hv];exact g1),.inr ?_,rfl,?_,h6,fun b I=>?_⟩
    ·rw [k0];exact ⟨g2.1,g2.2.imp id fun ⟨g,cap,cur,e1,e2,e3⟩=>⟨g,cap,cur,e1,cG _,e3⟩⟩
    ·rw [hv];exact g3
    ·have:=g2.lt b (zM5 I);exact ⟨.inr this.1,this.2⟩
   obtain ⟨J,w',g1,g2,g3,_⟩:=run_append_own (P:=G.P) w 0 t o.type e inf z size by_ hel Q hz' hsz hby hzs hs0' (σ n) rows.length W own ad 1 c s h4 h5 hn1 (by simp only [maxLen];omega) C (cG _)
   exact ⟨J,w',s,hex _ _ (by rw [h3];exact g1),.inr g2,rfl,by rw [hob];exact g3,h6,fun b I=>⟨by rw [hob];exact zPq hel Q hz' hsz hby own h4 h5 hn1 (by simp only [maxLen];omega) C g1 (zM5 I),(g2.lt b (zM5 I)).2⟩⟩
 obtain ⟨J,w',s,r1,r2,_,r3,r4,r5⟩:=hrun
 unfold Oper.wp
 rw [r1,Oper.upon_value,hd]
 have hFn:∀i,i<rows.length->∀x,Fs i x -> φ n x:=fun i hi x hx=>(hfp x).2 (.inr ⟨i,hi,hx⟩)
 have hkeep:∀b,b<w.heap.size->((∃k0,(n,k0)∈S)->¬φ n b)->w'.heap[b]? = w.heap[b]? := fun b I hf=>r3.block b I fun e=>hf ⟨_,B⟩ ((hfp b).2 (.inl e.symm))
 have hFb:∀i,i<rows.length->∀x,Fs i x->w'.heap[x]? = w.heap[x]? := fun i hi x hx=>r3.block x (hp.inv.lt x ⟨n,_,B,hFn i hi x hx⟩).1 fun e=>hF3 i hi x hx e.symm
 obtain ⟨F2,hF2⟩:∃F2:Nat->Nat->Prop,F2=fun i x=>i<rows.length/\Fs i x:=⟨_,rfl⟩
 have F:∀i x,F2 i x->i<rows.length/\Fs i x:=fun i x h=>by rw [hF2] at h;exact h
 have hlay:=hp.lay (hdr:=J) (w':=w') (fp:=fun x=>zNY J=some x\/∃i,i<(rows++[nr]).length/\F2 i x) (k:=.tre e size kc ke (rows++[nr])) hn hE hS r3.size (fun b I=>?_) hkeep r3.os r3.tape r3.output fun D' hD=>?_
 ·refine k r hr _ _ ⟨_,_,hlay.put (zCS hlt) ?_⟩
  have:R (upd σ n J) w' (Dof G.X (upd φ n fun x=>zNY J=some x\/∃i,i<(rows++[nr]).length/\F2 i x) w' ((n,.tre e size kc ke (rows++[nr]))::S')) (.own n) (upd σ n J n):=.own (by rw [zAw];exact zS7 r2)
  rw [zAw] at this
  exact this
 ·rcases I with I | ⟨i,_,I⟩
  ·have hlt':=(r5 b I).2
   refine ⟨hlt',?_⟩
   rcases lY b w.heap.size with h | h
   ·right
    exact ⟨⟨_,B⟩,(hfp b).2 (.inl ((r5 b I).1.resolve_right (by omega)))⟩
   ·exact .inl h
  ·obtain ⟨hi,I⟩:=F i b I
   have:=(hp.inv.lt b ⟨n,_,B,hFn i hi b I⟩).1
   have hsz':=r3.size
   exact ⟨by omega,.inr ⟨⟨_,B⟩,hFn i hi b I⟩⟩
 ·have hnrl:nr.1.length=size:=by
   rcases hnr with ⟨_,h⟩ | ⟨_,_,h⟩<;>rw [h]
   ·exact hsr
   ·simpa using hsr
  refine zgb (xs:=W++s) he (fun r' H=>?_) hkc (by simpa using r2) (fun i _ x hx hob=>?_) (fun i j _ _ hne x hx hy'=>?_) fun i r' H=>?_
  ·rcases cA.1 H with h | h
   ·exact M.1 r' h
   ·simp at h;subst h;exact hnrl
  ·obtain ⟨hi,hx⟩:=F i x hx
   have h1:=hFn i hi x hx
   have h2:=(hp.inv.lt x ⟨n,_,B,h1⟩).1
   rcases (r5 x hob).1 with h | h
   ·exact hF3 i hi x hx h
   ·omega
  ·obtain ⟨hi,hx⟩:=F i x hx
   obtain ⟨hj,hy'⟩:=F j x hy'
   exact hF4 i j hi hj hne x hx hy'
  ·have hl1:W.length=rows.length*size:=own.len
   rcases lY i rows.length with hi | hi
   ·rw [lN hi] at H
    obtain ⟨q1,q2⟩:=hxs i r' H
    refine ⟨fun h x hx=>q1 h x (F i x hx).2,fun kk c u hc hu=>?_⟩
    have hkk:kk<size:=by rw [<- M.1 _ (lU H)];exact (lF.1 hc).1
    have hlt2:i*size+kk<W.length:=by
     have:(i+1)*size<=rows.length*size:=lO _ (by omega)
     rw [lP] at this;omega
    rw [lN hlt2] at hu
    obtain ⟨a1,a2⟩:=q2 kk c u hc hu
    have hFe:F2 i=Fs i:=by rw [hF2];funext x;simp [hi]
    rw [hFe]
    exact ⟨fun h=>let ⟨ks,rws,q1,q2⟩:=a1 h;⟨ks,rws,q1,q2.next hD (hFb i hi)⟩,fun h=>(a2 h).imp id fun h=>h.mono hD⟩
   ·rw [cC hi] at H
    have hi0:i=rows.length:=by have:=(lF.1 H).1;simp at this;omega
    subst hi0
    simp at H;subst H
    have hnoF:∀x,¬F2 rows.length x:=fun x hx=>by have:=(F _ x hx).1;omega
    refine ⟨fun _=>hnoF,fun kk c u hc hu=>?_⟩
    rw [cC (by omega),hl1,Nat.add_sub_cancel_left] at hu
    rcases hnr with ⟨h1',h2'⟩ | ⟨h1',h2',h3'⟩
    ·rw [h2'] at hc
     exact ⟨fun h=>(by rw [h1'] at h;cases h.1),fun _=>.inr ((r4 kk c u hc hu).mono hD)⟩
    ·by_cases hk:kk=kc
     ·subst hk
      rw [h3',gB (by omega)] at hc
      cases hc
      rw [zKX] at h2'
      have hv:=r4 kk _ u h2' hu
      cases hv
      exact ⟨fun _=>⟨ks,[],rfl,⟨by simp,.inl ⟨rfl,⟨none,rfl⟩,hnoF⟩⟩⟩,fun h=>absurd ⟨h1',rfl⟩ h⟩
     ·rw [h3',gN (Ne.symm hk)] at hc
      exact ⟨fun h=>absurd h.2 hk,fun _=>.inr ((r4 kk c u hc hu).mono hD)⟩
theorem zYn {D':Nat->Prop} (Q:∀b,D b->D' b) (W:∀b,fp b->D' b) (hj:∀r∈rows,r.1.all zXq=true) (h:zHQ w D v fp e size kc ke rows):RD w D' (.sl size false (rows.map (·.1))) v:=by
 obtain ⟨M,hkc,⟨rfl,⟨ao,rfl⟩,h3⟩ | ⟨b,us,cap,Fs,rfl,L,g3,g4,g5,g6,g7,g8,g9⟩⟩:=h
 ·exact .nil (cG _) (by simp)
 ·have at_:∀i f k c,(rows.map (·.1))[i]? = some f->f[k]? = some c->i*size+k<us.length/\∃F,rows[i]? = some (f,F):=by
   intro i f k c hi s
   rw [lK,lI] at hi
   obtain ⟨r,B,rfl⟩:=hi
   have J:=M r (lU B)
   have hk':k<size:=by rw [<- J];exact (lF.1 s).1
   have hi':=(lF.1 B).1
   refine ⟨?_,r.2,B⟩
   have:(i+1)*size<=cap*size:=lO _ (by omega)
   rw [lP] at this
   omega
  have:=RD.sl (w:=w) (D:=D') (size:=size) (full:=false) (rows:=rows.map (·.1)) (a:=⟨b,0,none⟩) (cap:=cap) (fun j=>us.getD j undef) (by simpa using g6.1) g7 (by simp) (W b ((L b).2 (.inl rfl)))
   (fun f hr=>by obtain ⟨r,B,rfl⟩:=lE.1 hr;exact M r B) (fun i f k c hi s=>by
    obtain ⟨C,_⟩:=at_ i f k c hi s
    rw [zCZ,zBN g8]
    simp [List.getD,lC C]) (fun i f k c hi s=>by
    obtain ⟨C,F,H⟩:=at_ i f k c hi s
    obtain ⟨a1,a2⟩:=(g9 i _ H).2 k c _ s (lC C)
    simp only [List.getD,lC C,cM]
    have I:=(lF.1 H).1
    by_cases X:F=true/\k=kc
    ·obtain ⟨ks,rws,rfl,ha⟩:=a1 X
     exact zTp (σ := fun _=>.nilFunc) Q (fun x hx=>W x ((L x).2 (.inr ⟨i,I,hx⟩))) ha
    ·rcases a2 X with rfl | hr
     ·have:=lR.1 (hj _ (lU H)) _ (lU s)
      cases this
     ·exact hr.mono fun b hb=>⟨Q b hb,rfl⟩)
  rw [lL] at this
  exact this
theorem zR7 {q:PV} {k0:Blk} (C:lkS S n=some k0) (hq0:∀(σ : Nat->Value) (w:World) (D D':Nat->Prop) v fp,(∀b,D b->D' b)->(∀b,fp b->D' b)->zCT σ w D v fp k0->RD w D' q v) (hE:zX2 n q E=some E') (hS:zVT n q S=some S') {a:Act} {w:World} {σ : Nat->Value} {φ : Nat->Nat->Prop} :
  Pre' G E S a w σ φ -> Pre' G E' S' a w σ φ := by
 intro h
 have f:=zAl C
 have s:=zT6 hS
 have hF:∀b,zCQ φ S' b->zCQ φ S b:=by
  rintro b ⟨m,k,H,I⟩
  obtain ⟨_,k0,B,_⟩:=s m k H
  exact ⟨m,k0,B,I⟩
 have L:∀b,Dof G.X φ w S b->Dof G.X φ w S' b:=fun b ⟨H,I,B⟩=>⟨H,I,fun m k Q hf=>by
  obtain ⟨m',k',h4,h5⟩:=hF b ⟨m,k,Q,hf⟩
  exact B m' k' h4 h5⟩
 have hn:∀b,φ n b->Dof G.X φ w S' b:=fun b C=>by
  obtain ⟨H,I⟩:=h.inv.lt b ⟨n,_,f,C⟩
  refine ⟨H,I,fun m k Q hf=>?_⟩
  obtain ⟨W,k0,B,_⟩:=s m k Q
  exact h.inv.disj m n k0 _ B f W b hf C
 have hq:RD w (Dof G.X φ w S') q (σ n):=hq0 σ w _ _ _ _ L hn (h.inv.ok n _ f)
 refine ⟨h.defers,h.size,fun t p ht=>?_,⟨(zPU hS).nodup h.inv.nodup,h.inv.xlt,fun b C=>h.inv.lt b (hF b C),fun m1 m2 k1 k2 H I=>?_,fun m k Q=>?_⟩,h.fr,h.agree,fun b C=>h.new b (hF b C)⟩
 ·rw [zWz hE] at ht
  cases J:lk E t with
  | none=>simp [J] at ht
  | some p0 =>
   obtain ⟨u,hu,hr⟩:=h.env t p0 J
   simp only [J,lW,lJ.injEq] at ht
   exact ⟨u,hu,zN1 L hq hr ht⟩
 ·obtain ⟨_,k01,B,_⟩:=s m1 k1 H
  obtain ⟨_,k02,h4,_⟩:=s m2 k2 I
  exact h.inv.disj m1 m2 k01 k02 B h4
 ·obtain ⟨W,k0,B,hkk⟩:=s m k Q
  rcases hkk with ⟨rfl,_⟩ | ⟨ty,cells,cells',rfl,rfl,hc⟩
  ·exact (h.inv.ok m _ B).mono L
  ·rcases h.inv.ok m _ B with hbk | hw
   rotate_left
   ·obtain ⟨l1,l2⟩:=zRg hc
    refine .inr (hw.map l1 (fun p hp h0=>by rw [l2 0,h0];simp [zT5,zOm,hp.none]) (fun i c c' u g1 M hr=>?_) (fun p u hr=>hr.mono fun b C=>⟨L b C,rfl⟩) fun _ _=>rfl)
    rw [l2 i,g1] at M
    simp only [lW,lJ.injEq] at M
    exact zN1 L hq hr M
   obtain ⟨b,us,g1,M,g3,g4,g5⟩:=hbk
   obtain ⟨l1,l2⟩:=zRg hc
   refine .inl ⟨b,us,g1,M,by rw [g3,l1],g4,fun i c u F hu=>?_⟩
   rw [l2 i] at F
   cases J:cells[i]? with
   | none=>simp [J] at F
   | some p0 =>
    simp only [J,lW,lJ.injEq] at F
    exact zN1 L hq (g5 i p0 u J hu) F
theorem zXI (f : β -> List PV×Bool) (g : β -> α) (enc : α -> List PV) (xs:List β) {E':Env} {S':zAC} (b:∀x,(f x).1=enc (g x)) (I:∀x,(enc x).all zXq=true) (H:lkS S n=some (.tre e size kc ke (xs.map f)))
  (C:zX2 n (.sl size false ((xs.map g).map enc)) E=some E') (F:zVT n (.sl size false ((xs.map g).map enc)) S=some S') {a:Act} {w:World} {σ : Nat->Value} {φ : Nat->Nat->Prop}:Pre' G E S a w σ φ -> Pre' G E' S' a w σ φ := by
 refine zR7 H (fun σ w D D' v fp k s B=>?_) C F
 have h:(xs.map g).map enc=(xs.map f).map (·.1):=by simp [b]
 rw [h]
 refine zYn k s (fun r hr=>?_) B
 obtain ⟨x,_,rfl⟩:=lE.1 hr
 rw [b];exact I _
theorem zDa {c:Code} (n:Nat) {e size kc ke:Nat} (f : β -> List PV×Bool) (g : β -> α) (enc : α -> List PV) (xs:List β) {E':Env} {S':zAC} (B:∀x,(f x).1=enc (g x)) (C:∀x,(enc x).all zXq=true) (s:lkS S n=some (.tre e size kc ke (xs.map f)))
  (b:zX2 n (.sl size false ((xs.map g).map enc)) E=some E') (h:zVT n (.sl size false ((xs.map g).map enc)) S=some S') (k:PW G m c K E' S'):PW G m c K E S:=fun r hr a w ⟨σ,φ,F⟩=>k r hr a w ⟨σ,φ,zXI f g enc xs B C s b h F⟩
end
end
section
open Go Go.MapKept
variable {D:Nat->Prop}
section
variable {ρ : Type} {G:Ctx ρ} {m:Option ρ} {K:List (Kont ρ)} {E:Env} {S:zAC} {all:Array Oper}
def asVs:List PV->Option (List Value)
 | []=>some []
 | .v u::l=>if zSy u then (asVs l).map (u :: ·) else none
 | .sl _ _ []::l=>(asVs l).map (.slice none 0 0 :: ·)
 | _::_=>none
def asV:PV->Option Value
 | .v u=>if zSy u then some u else none
 | .agg cs=>(asVs cs).map fun l=>.agg ⟨l⟩
 | .mpd []=>some (.map none)
 | _=>none
theorem zWX {w:World} {D:Nat->Prop}:∀{cs:List PV} {l:List Value},asVs cs=some l->cs.length=l.length/\∀(i:Nat) (c:PV) (u:Value),cs[i]? = some c->l[i]? = some u->RD w D c u
 | [],l,h=>by
  cases h
  exact ⟨rfl,fun i c u b=>by simp at b⟩
 | .v u::cs,l,h=>by
  simp only [asVs] at h
  by_cases H:zSy u=true
  ·rw [iP H] at h
   obtain ⟨J,B,rfl⟩:=lI.1 h
   obtain ⟨C,F⟩:=zWX (w:=w) (D:=D) B
   refine ⟨by simp [C],fun i c I b k=>?_⟩
   cases i with
   | zero=>simp at b k;subst b k;exact .v H
   | succ i=>exact F i c I (by simpa using b) (by simpa using k)
  ·rw [iN H] at h;cases h
 | .sl s f []::cs,l,h=>by
  simp only [asVs] at h
  obtain ⟨J,B,rfl⟩:=lI.1 h
  obtain ⟨C,F⟩:=zWX (w:=w) (D:=D) B
  refine ⟨by simp [C],fun i c I b k=>?_⟩
  cases i with
  | zero=>simp at b k;subst b k;exact .nil (by simp [maxLen]) fun _=>rfl
  | succ i=>exact F i c I (by simpa using b) (by simpa using k)
 | .sl _ _ (_::_)::_,_,h | .agg _::_,_,h | .tup _::_,_,h | .el _ _::_,_,h | .loc _ _::_,_,h | .nloc _ _::_,_,h | .ela _ _ _ _::_,_,h | .own _::_,_,h | .ownb _::_,_,h | .dat _::_,_,h | .bsl _ _::_,_,h
 | .fn _ _ _::_,_,h | .err _::_,_,h | .sel _ _::_,_,h | .vw _ _ _ _::_,_,h | .mpd _::_,_,h | .junk::_,_,h=>by cases h
theorem zaH {w:World} {p:PV} {u:Value} (h:asV p=some u):RD w D p u:=by
 cases p<;>simp only [asV] at h<;>try cases h
 ·rename_i x
  by_cases b:zSy x=true
  ·rw [iP b] at h;cases h;exact .v b
  ·rw [iN b] at h;cases h
 ·rename_i cs
  obtain ⟨l,k,rfl⟩:=lI.1 h
  obtain ⟨s,B⟩:=zWX (w:=w) (D:=D) k
  exact .agg (by simpa using s) fun i c u C F=>B i c u C (by simpa using F)
 ·rename_i f
  cases f with
  | nil=>cases h;exact .mp0
  | cons x l=>cases h
def zK5 {κ ν : Type} [DecidableEq κ] (l:List (κ × ν)) (k : κ):Bool:=(zH2 l k).isSome
theorem zVM {κ ν : Type} [DecidableEq κ] {T:Tab G.P} {o:Oper} {dd:TypeDesc} {key : κ -> Value} (Q:KeyEnc dd key) (f : ν -> PV) (l:List (κ × ν)) (k : κ) (z : ν) {t kt et:TypeId} {x ix:Operand} {n:Nat} {zv:Value} (ho:o.op=.lookup t x ix true) (hm:G.P.underlying t=some (.map kt et)) (hk:G.P.underlying kt=some dd)
  (hx:ev E x=some (.own n)) (hi:ev E ix=some (.v (key k))) (hb:lkS S n=some (.mp (l.map fun p=>(key p.1,f p.2)))) (hz:lku T.zeros et=some zv) (hzv:asV (f z)=some zv) {σ : Nat->Value} {φ : Nat->Nat->Prop} {w:World} {a:Act} (hp:Pre' G E S a w σ φ):zCG G S o σ φ a w (.tup [f (zLJ l k z),.v (.bool (zK5 l k))]):=by
 have L:=zAl hb
 obtain ⟨b,h,cl,g1,g2,g3,g4,g5⟩:=hp.inv.ok n _ L
 have W:=zUP (zAm hp.env hx) g1
 obtain ⟨J,_⟩:=(zAm hp.env hi).flat_inv
 have H:=zGC Q k l h.toList 0 (by simpa using g4) fun j e x' h1 h2=>(g5 j e _ (by simpa using h1) (by rw [lK,h2];rfl)).1
 have hz':=T.hzeros _ (zAc hz)
 have hzr:(zeroValue et).run G.P w=.ok zv w:=by
  obtain ⟨inf,I,hzi⟩:=dX.1 hz'
  simp [zeroValue,typeInfo,I,hzi]
 have F:=run_checkKey (P:=G.P) (w:=w) hk (Q.isKey k) h.isEmpty 9999
 have M:∃u,(execOp a.eval o).run G.P w=.ok (.value (.tuple #[u,.bool (zK5 l k)])) w/\RD w (Dof G.X φ w S) (f (zLJ l k z)) u:=by
  unfold zLJ zK5
  cases hj:zH2 l k with
  | none =>
   rw [hj] at H
   have B:=run_findKey (w:=w) hk H
   refine ⟨zv,?_,by simp only;exact zaH hzv⟩
   simp [execOp,ho,W,J,Instr.lookup,run_underlying hm,MapKept.run_getObj_map g3,F,B,hzr,Result.andThen]
  | some j =>
   rw [hj] at H
   obtain ⟨v,hv⟩:=zJB hj
   have hjl:j<h.size:=by rw [g4,lL];exact (lF.1 hv).1
   have he:h[j]? = some h[j]:=dC hjl
   simp only [show h.toList[j]? = some h[j] by simp,lW,dA] at H
   have B:=run_findKey (w:=w) hk H
   refine ⟨h[j].val,?_,?_⟩
   ·simp [execOp,ho,W,J,Instr.lookup,run_underlying hm,MapKept.run_getObj_map g3,F,B,Result.andThen]
   ·simp only [hv,dY]
    exact (g5 j _ _ he (by rw [lK,hv];rfl)).2
 obtain ⟨u,h1,h2⟩:=M
 unfold zCG
 rw [h1]
 refine ⟨rfl,.tup rfl fun i c u' s C=>?_⟩
 match i,s,C with
 | 0,s,C=>simp at s C;subst s C;exact .d h2
 | 1,s,C=>simp at s C;subst s C;exact .d (.v rfl)
theorem zH5 {κ ν : Type} [DecidableEq κ] {T:Tab G.P} {o:Oper} {rest:List Oper} {s:TypeDesc} {key : κ -> Value} (Q:KeyEnc s key) (b : ν -> PV) (l:List (κ × ν)) (k : κ) (z : ν) {t F B:TypeId} {x C:Operand} {n d:Nat} {H:Value} (W:G.P.underlying t=some (.map F B)) (M:G.P.underlying F=some s) (X:o.op=.lookup t x C true)
  (L:gE all E o=some true) (hx:ev E x=some (.own n)) (hi:ev E C=some (.v (key k))) (I:lkS S n=some (.mp (l.map fun p=>(key p.1,b p.2)))) (hz:lku T.zeros B=some H) (h:asV (b z)=some H) (J:o.dst=some d) (f:lB d G.fn.ntmps=true)
  (kk:PO G m all rest K ((d,.tup [b (zLJ l k z),.v (.bool (zK5 l k))])::E) S):PO G m all (o::rest) K E S :=
 zDu L (fun _ _ _ _ hp=>zVM (T:=T) Q b l k z X W M hx hi I hz h hp) J f kk
theorem zdA {α β : Type} (f : α -> β) (l:List α) (x : α):l.map f++[f x]=(l++[x]).map f:=by simp
end
end
section
variable {d:Nat} {p:PV} {V:Vw} {o:Oper} {reads:List Nat} {E0:Env} {S0 S:zAC}
section
variable {ρ : Type} {G:Ctx ρ} {m:Option ρ} {K:List (Kont ρ)} {all:Array Oper}
def zNf:Env->List Nat
 | []=>[]
 | (_,p)::E=>names p++zNf E
def dedN:List Nat->List Nat
 | []=>[]
 | x::l=>bif l.any (lA x) then dedN l else x::dedN l
def zeZ:List Nat->List Nat
 | []=>[]
 | t::l=>2*t::zeZ l
def blkK:List Nat->List Nat->List Nat
 | [],r=>r
 | n::l,r=>(2*n+1)::blkK l r
def nsB:zAC->List Nat
 | []=>[]
 | (n,.box _ cells)::S=>n::(names.nameL cells++nsB S)
 | (n,_)::S=>n::nsB S
def vtry {P:Program} (T:Tab P) (N:Nat) (all:Array Oper) (V:Vw) (o:Oper) (reads:List Nat):Option (List Nat×Nat×PV×Env×zAC) :=
 match zLp V reads with
 | some E0=>(match zME V reads with
  | some S0=>(match zav T N all S0 1 [o] E0 with
   | some ([],(d,p)::_)=>some (reads,d,p,E0,S0)
   | _=>none)
  | none=>none)
 | none=>none
def zcU {P:Program} (T:Tab P) (N:Nat) (all:Array Oper) (V:Vw) (o:Oper):Option (List Nat×Nat×PV×Env×zAC) :=
 match vtry T N all V o (zeZ (o.looksAt all)) with
 | some x=>some x
 | none=>(match zLp V (zeZ (o.looksAt all)) with
  | some E0=>vtry T N all V o (blkK (dedN (zNf E0)) (zeZ (o.looksAt all)))
  | none=>none)
theorem zcW {P:Program} {T:Tab P} {N:Nat} {s:List Nat} (h:vtry T N all V o s=some (reads,d,p,E0,S0)) :
  zLp V reads=some E0/\zME V reads=some S0/\∃E',zav T N all S0 1 [o] E0=some ([],(d,p)::E'):=by
 unfold vtry at h
 split at h<;>try cases h
 rename_i E b
 split at h<;>try cases h
 rename_i S f
 split at h<;>try cases h
 rename_i B C E' k
 exact ⟨b,f,E',k⟩
theorem zen {P:Program} {T:Tab P} {N:Nat} (h:zcU T N all V o=some (reads,d,p,E0,S0)) :
  zLp V reads=some E0/\zME V reads=some S0/\∃E',zav T N all S0 1 [o] E0=some ([],(d,p)::E'):=by
 unfold zcU at h
 split at h
 ·rename_i x hx
  cases h
  exact zcW hx
 ·split at h
  ·exact zcW h
  ·cases h
theorem zep:wOf [(d,p)] S [2*d]=some [(2*d,.pv p)]:=by
 have b:2*d % 2=0:=by omega
 have f:2*d / 2=d:=by omega
 simp [wOf,zVW,b,f,lk]
theorem zRk {S:zAC}:∀{l:List Nat},zJ9 l S S
 | []=>trivial
 | _::_=>⟨rfl,zRk⟩
theorem zVa:∀{S:zAC} {n:Nat} {b:Blk},(S.map (·.1)).Nodup->(n,b)∈S->lkS S n=some b
 | [],_,_,_,h=>by cases h
 | (k,c)::S,n,b,hn,h=>by
  simp only [lT,lS] at hn
  simp only [lkS]
  rcases lD.1 h with e | h
  ·cases e;simp
  ·have:k≠n:=fun e=>hn.1 (e▸lE.2 ⟨_,h,rfl⟩)
   rw [zBa this]
   exact zVa hn.2 h
theorem zYl {S:zAC} (f:(S.map (·.1)).Nodup):∀T:zAC,(∀x∈T,x∈S)->zGN T S
 | [],_=>trivial
 | (n,b)::T,h=>⟨zVa f (h (n,b) (lH ..)),zYl f T fun x hx=>h x (lG _ hx)⟩
def zhM (G:Ctx ρ) (ms:List Nat) (ment0:List (Nat×List Nat)) (j:Nat) (reads:List Nat) (d:Nat) (p:PV) (S0:zAC) (acc:List Summ) (o:Oper):Bool :=
 zH4 (ms.getD j 0) ment0 j ⟨reads,[2*d],[],[(2*d,names p)]⟩ acc&&zHd G [] [2*d] (S0.map (·.1)) S0 o&&zGG (names p++nsB S0) [] [2*d] (S0.map (·.1)) [(d,p)] S0
theorem zd8 {T:Tab G.P} {ms:List Nat} {ment0:List (Nat×List Nat)} {rest:List Oper} {j:Nat} {acc:List Summ} 
  (h:zcU T G.fn.ntmps all V o=some (reads,d,p,E0,S0)) (b:zhM G ms ment0 j reads d p S0 acc o=true)
  (k:PDV G m all ms ment0 rest (j+1) (⟨reads,[2*d],[],[(2*d,names p)]⟩::acc) ((2*d,.pv p)::V) K):PDV G m all ms ment0 (o::rest) j acc V K:=by
 obtain ⟨s,B,E',C⟩:=zen h
 simp only [zhM,lM] at b
 have f:zA2 (S0.map (·.1))=true:=by
  have:=b.1.2
  simp only [zHd,lM] at this
  exact this.1.1.1.1
 refine zVl reads [2*d] [] (names p++nsB S0) (S0.map (·.1)) [(d,p)] S0 s B zep rfl b.1.1 b.1.2 b.2 zRk (fun w0 X X0 σ0 F=>zHb (G:=⟨G.P,G.fn,w0,X,X0,σ0,names p++nsB S0,fun _ _ _=>True,G.dz,G.L,F,G.ro⟩) (T:=T) 1 rfl C (zGK (zPY (show zOO [(d,p)] ((d,p)::E') from ⟨by simp [lk],trivial⟩) (zYl (zK7 f) _ fun x hx=>hx) f))) k
end
end
section
variable {α:Type} {o:Oper} {rest:List Oper} {ms wr kp l:List Nat} {ment0:List (Nat×List Nat)} {P:Prop} {c j:Nat} {acc:List Summ} {V:Vw} {first cap qs qs0:List PV} {args:Array Operand} {tys:Array TypeId}
def zc1:List Nat->Env->Option Env
 | [],_=>some []
 | k::l,E=>match lk E k with
  | some p=>(match zc1 l E with
   | some r=>some ((k,p)::r)
   | none=>none)
  | none=>none
theorem zUe:∀{l:List Nat} {E E':Env},zc1 l E=some E'->zOO E' E
 | [],E,E',h=>by simp [zc1] at h;subst h;trivial
 | k::l,E,E',h=>by
  simp only [zc1] at h
  split at h<;>try simp at h
  rename_i p b
  split at h<;>try simp at h
  rename_i r f
  subst h
  exact ⟨b,zUe f⟩
def zXP:List Nat->zAC->Option zAC
 | [],_=>some []
 | k::l,S=>match lkS S k with
  | some b=>(match zXP l S with
   | some r=>some ((k,b)::r)
   | none=>none)
  | none=>none
theorem zNA:∀{l:List Nat} {S S':zAC},zXP l S=some S'->zGN S' S/\S'.map (·.1)=l
 | [],S,S',h=>by simp [zXP] at h;subst h;exact ⟨trivial,rfl⟩
 | k::l,S,S',h=>by
  simp only [zXP] at h
  split at h<;>try simp at h
  rename_i b B
  split at h<;>try simp at h
  rename_i r C
  subst h
  obtain ⟨f,s⟩:=zNA C
  exact ⟨⟨B,f⟩,by simp [s]⟩
section
variable {ρ : Type} {G:Ctx ρ} {m:Option ρ} {K:List (Kont ρ)} {E:Env} {S:zAC} {all:Array Oper}
theorem zgr (ke ks:List Nat) {E':Env} {S':zAC} {c:Code} (f:zc1 ke E=some E') (b:zXP ks S=some S') (k:zA2 ks=true) (h:PW G m c K E' S'):PW G m c K E S :=
 zXM h (zUe f) (zNA b).1 (by rw [(zNA b).2];exact k)
theorem zYk:∀{A B E:Env},zOO A E->zOO B E->zOO (A++B) E
 | [],_,_,_,h=>h
 | (_,_)::_,_,_,ha,h=>⟨ha.1,zYk ha.2 h⟩
theorem zV7:∀{A B S:zAC},zGN A S->zGN B S->zGN (A++B) S
 | [],_,_,_,h=>h
 | (_,_)::_,_,_,ha,h=>⟨ha.1,zV7 ha.2 h⟩
theorem zeM (M:Nat -> α -> Option ρ) (ke ks:List Nat) (f : α -> Env) (b : α -> zAC) (n:Nat) (x : α) {body:Code} {E0:Env} {S0:zAC} (h:zc1 ke E=some E0) (k:zXP ks S=some S0)
  (F:∀n x,PW G (M (n+1) x) body (.iter (zXg G (M n) (fun x=>f x++E0) (fun x=>b x++S0))::K) (f x++E0) (b x++S0)) (s:∀x,M 0 x=none) (B:zOO (f x) E) (C:zGN (b x) S) (H:zA2 ((b x++S0).map (·.1))=true):PW G (M n x) (.loop body) K E S :=
 zYa M (fun x=>f x++E0) (fun x=>b x++S0) n x s (zYk B (zUe h)) (zV7 C (zNA k).1) H F
theorem zeL {c:Code} (J : α -> Option ρ) (ke ks:List Nat) (b : α -> Env) (f : α -> zAC) {E0:Env} {S0:zAC} (_:zc1 ke E=some E0) (_:zXP ks S=some S0)
  (h:∀x,PN G (J x) K (b x++E0) (f x++S0)) (body:(∀x,PN G (J x) K (b x++E0) (f x++S0))->PW G m c K E S):PW G m c K E S:=body h
def zgU:zAC->Option (List Nat)
 | []=>some []
 | (n,_)::S=>match zgU S with
  | some r=>some (n::r)
  | none=>none
theorem zbc:∀{S:zAC} {l:List Nat},zgU S=some l->S.map (·.1)=l
 | [],l,h=>by simp [zgU] at h;subst h;rfl
 | (n,b)::S,l,h=>by
  simp only [zgU] at h
  split at h<;>try simp at h
  rename_i r f
  subst h
  simp [zbc f]
theorem zYV {x:Operand} {f:FuncId} {M:Option α} {enc : α -> PV} {Sr : α -> zAC} {g : α -> Option ρ} {Sc S1 S2:zAC} {N0 NR:List Nat} (rn:List (Nat×Nat)) (ks:List Nat) {E':Env} {C:Option Nat}
  (hc:∀y,M=some y->FC G.L G.P f qs0 Sc N0 fun r S'=>r=enc y/\S'=Sr y)
  (hd:o.dst=C) (ho:o.op=.call ⟨.value x,args,tys⟩) (hx:ev E x=some (.fn (.func f) first cap)) (X:zXP ((zJp rn Sc).map (·.1)) S=some (zJp rn Sc))
  (hdr:zPP ((zJp rn Sc).map (·.1)) S=some S1) (s:zJi ks S1=some S2) (h:zHj ks E=some E')
  (k:∀y,M=some y->PO G (g y) all rest K (putE C (Pw.ren rn (enc y)) E') (zJp rn (Sr y)++S2))
  (hq:zNk rn qs0=first++qs++cap)
  (hg:gE all E o=some true) (ha:zMG E args.toList qs)
  (b:∀y,zgU (zJp rn (Sr y))=some NR)
  (u0:zA2 ((rn.map (·.1)).map (rho rn))=true) (u1:zOG (Sc.map (·.1)) (rn.map (·.1))=true) (u2:∀y,zOG ((Sr y).map (·.1)) (rn.map (·.1))=true) (u3:zOG N0 (rn.map (·.1))=true) (u4:∀y,zDE (rn.map (·.1)) (Sr y)=true) (u5:∀y,zD5 (rn.map (·.1)) [enc y]=true)
  (F:zA2 ((zJp rn Sc).map (·.1))=true) (H:zA2 (NR++S2.map (·.1))=true) (I:zOG NR (N0.map (rho rn)++ks)=true) (J:ks.all (zEY G)=true) (Q:∀y,zDE (N0.map (rho rn)++ks) (zJp rn (Sr y))=true) (W:∀y,zD5 (N0.map (rho rn)++ks) [Pw.ren rn (enc y)]=true)
  (hf:zAo G.P f=true) (B:dstB C G.fn.ntmps=true):PO G (bnd M g) all (o::rest) K E S :=
 zUW (NR:=NR) ks (fun y hy=>hq▸zP0 rn (rn.map (·.1)) (hc y hy) u0 u1 (u2 y) u3 (u4 y) (u5 y)) (zNA X).1 (fun y=>zbc (b y)) hdr s h F H I J Q W ho hx hg ha hf hd B k
def midL (a b:Nat) (l:List PV):Option (List PV):=some ((l.drop a).take (l.length - a - b))
theorem zeC {x:Operand} {f:FuncId} {d:Nat} {M:Option α} {enc : α -> PV} {g : α -> Option ρ} {Sc:zAC} (rn:List (Nat×Nat))
  (I:∀y,M=some y->FC G.L G.P f qs0 Sc (Sc.map (·.1)) fun r S'=>r=enc y/\S'=Sc) (Q:o.dst=some d) (ho:o.op=.call ⟨.value x,args,tys⟩) (hx:ev E x=some (.fn (.func f) first cap)) (H:zXP ((zJp rn Sc).map (·.1)) S=some (zJp rn Sc))
  (k:∀y,M=some y->PO G (g y) all rest K ((d,Pw.ren rn (enc y))::E) S)
  (hq:zNk rn qs0=first++qs++cap) (hg:gE all E o=some true) (ha:zMG E args.toList qs)
  (u0:zA2 ((rn.map (·.1)).map (rho rn))=true) (B:zOG (Sc.map (·.1)) (rn.map (·.1))=true) (J:zDE (rn.map (·.1)) Sc=true) (u5:∀y,zD5 (rn.map (·.1)) [enc y]=true)
  (F:zA2 ((zJp rn Sc).map (·.1))=true) (s:zKU ((zJp rn Sc).map (·.1)) (zJp rn Sc)=true) (W:∀y,noN (Pw.ren rn (enc y))=true)
  (X:zAo G.P f=true) (C:lB d G.fn.ntmps=true):PO G (bnd M g) all (o::rest) K E S:=by
 refine zeD (Sc:=zJp rn Sc) (enc:=fun y=>Pw.ren rn (enc y)) (fun y hy=>?_) (zF0 (zNA H).1 F) s ho hx hg ha W X Q C k
 have h:=zP0 rn (rn.map (·.1)) (I y hy) u0 B B B J (u5 y)
 have e:(Sc.map (·.1)).map (rho rn)=(zJp rn Sc).map (·.1):=by
  clear I H F s J B h
  induction Sc with
  | nil=>rfl
  | cons x Sc ih=>obtain ⟨n,b⟩:=x;simp only [lT,zJp,ih]
 rw [e,hq] at h
 exact h
def zSE {P:Program} (T:Tab P) (N:Nat) (all:Array Oper):Nat->List Oper->Nat->List Summ->Vw->Option (List Oper×Nat×List Summ×Vw)
 | 0,ops,j,acc,V=>some (ops,j,acc,V)
 | _+1,[],_,_,_=>none
 | k+1,o::rest,j,acc,V=>match zcU T N all V o with
  | some (reads,d,p,_,_)=>(match zHi reads,zHi (names p) with
   | some rd,some ns=>zSE T N all k rest (j+1) (⟨rd,[2*d],[],[(2*d,ns)]⟩::acc) ((2*d,.pv p)::V)
   | _,_=>none)
  | none=>none
def zcV (G:Ctx ρ) (T:Tab G.P) (all:Array Oper) (ms:List Nat) (ment0:List (Nat×List Nat)):Nat->List Oper->Nat->List Summ->Vw->Bool
 | 0,_,_,_,_=>true
 | _+1,[],_,_,_=>false
 | k+1,o::rest,j,acc,V=>match zcU T G.fn.ntmps all V o with
  | some (reads,d,p,_,S0)=>zhM G ms ment0 j reads d p S0 acc o&&zcV G T all ms ment0 k rest (j+1) (⟨reads,[2*d],[],[(2*d,names p)]⟩::acc) ((2*d,.pv p)::V)
  | none=>false
theorem zbp {T:Tab G.P} (k:Nat) {ops rest:List Oper} {j B:Nat} {acc b:List Summ} {V V':Vw}
  (h:zSE T G.fn.ntmps all k ops j acc V=some (rest,B,b,V')) (f:zcV G T all ms ment0 k ops j acc V=true)
  (H:PDV G m all ms ment0 rest B b V' K):PDV G m all ms ment0 ops j acc V K:=by
 induction k generalizing ops j acc V with
 | zero=>simp [zSE] at h;obtain ⟨rfl,rfl,rfl,rfl⟩:=h;exact H
 | succ k I =>
  cases ops with
  | nil=>simp [zSE] at h
  | cons o ops =>
   simp only [zSE] at h
   simp only [zcV] at f
   split at h<;>try simp at h
   rename_i reads d p E0 S0 s
   rw [s] at f
   simp only [lM] at f
   split at h<;>try simp at h
   rename_i J ns C F
   obtain rfl:=zMd C
   obtain rfl:=zMd F
   exact zd8 s f.1 (I h f.2)
def zLK:List Nat->Env->Env
 | [],_=>[]
 | k::l,E=>match k % 2 with
  | 0=>(match lk E (k / 2) with
   | some p=>(k / 2,p)::zLK l E
   | none=>zLK l E)
  | _=>zLK l E
def zIk:List Nat->zAC->zAC
 | [],_=>[]
 | n::l,S=>match lkS S n with
  | some b=>(n,b)::zIk l S
  | none=>zIk l S
def zK9:List Nat->List Nat
 | []=>[]
 | k::l=>match k % 2 with
  | 0=>zK9 l
  | _=>k / 2::zK9 l
def zBk (writes:List Nat):zAC->List Nat
 | []=>[]
 | (n,_)::S=>bif inW writes n then zBk writes S else n::zBk writes S
def exK (ks:List Nat):List Nat->List Nat
 | []=>[]
 | n::l=>bif ks.any (lA n) then exK ks l else n::exK ks l
theorem zO2 {E:Env}:∀{l:List Nat},zOO (zLK l E) E
 | []=>trivial
 | k::l=>by
  unfold zLK
  split
  ·split
   ·exact ⟨by assumption,zO2⟩
   ·exact zO2
  ·exact zO2
theorem zQq {S:zAC}:∀{l:List Nat},zGN (zIk l S) S
 | []=>trivial
 | k::l=>by
  unfold zIk
  split
  ·exact ⟨by assumption,zQq⟩
  ·exact zQq
def zKz:Vw->Option (List (Nat×List Nat))
 | []=>some []
 | (k,i)::W=>match zHi (zRr i),zKz W with
  | some l,some r=>some ((k,l)::r)
  | _,_=>none
theorem zOj:∀{W:Vw} {r:List (Nat×List Nat)},zKz W=some r->zJk W=r
 | [],r,h=>by simp [zKz] at h;subst h;rfl
 | (k,i)::W,r,h=>by
  simp only [zKz] at h
  split at h<;>try simp at h
  rename_i l s b f
  subst h
  have:=zMd b
  subst this
  have:=zOj f
  unfold zJk at this ⊢
  simp [this]
theorem zgi {H:Ctx α} {y : α} {b : α -> Env} {Sf : α -> zAC} (f:zA2 ((zIk kp (Sf y)).map (·.1))=true):PO H (some y) all [] [.iter fun y a w=>Pre H (zLK wr (b y)) (zIk kp (Sf y)) a w] (b y) (Sf y) :=
 zGK (zfL (E1:=fun y=>zLK wr (b y)) (S1:=fun y=>zIk kp (Sf y)) zO2 zQq f)
theorem zR1 {M:Option α} {g : α -> Option ρ} (reads writes ks:List Nat) {E0:Env} {S0:zAC} {f : α -> Env} {Sf : α -> zAC} {W : α -> Vw} {ment:List (Nat×List Nat)}
  (s:zLp V reads=some E0) (B:zME V reads=some S0)
  (h:∀w0 X X0 σ0 H,PO (⟨G.P,G.fn,w0,X,X0,σ0,exK ks (zNf E0++nsB S0),fun _ _ _=>True,G.dz,G.L,H,G.ro⟩:Ctx α) (bnd M some) all [o] [.iter fun y a w=>Pre (⟨G.P,G.fn,w0,X,X0,σ0,exK ks (zNf E0++nsB S0),fun _ _ _=>True,G.dz,G.L,H,G.ro⟩:Ctx α) (zLK writes (f y)) (zIk (zK9 writes++zBk writes S0) (Sf y)) a w] E0 S0)
  (I:∀y,wOf (zLK writes (f y)) (zIk (zK9 writes++zBk writes S0) (Sf y)) writes=some (W y)) (Q:∀y,zKz (W y)=some ment)
  (k:∀y,M=some y->PDV G (g y) all ms ment0 rest (j+1) (⟨reads,writes,ks,ment⟩::acc) (W y++V) K)
  (F:zH4 (ms.getD j 0) ment0 j ⟨reads,writes,ks,ment⟩ acc=true)
  (J:zHd G ks writes (zBk writes S0) S0 o=true) (C:∀y,zGG (exK ks (zNf E0++nsB S0)) ks writes (zBk writes S0) (zLK writes (f y)) (zIk (zK9 writes++zBk writes S0) (Sf y))=true)
  (b:∀y,zJ9 (zBk writes S0) (zIk (zK9 writes++zBk writes S0) (Sf y)) S0):PDV G (bnd M g) all ms ment0 (o::rest) j acc V K :=
 zUR reads writes ks (exK ks (zNf E0++nsB S0)) (zBk writes S0) (fun y=>zLK writes (f y)) (fun y=>zIk (zK9 writes++zBk writes S0) (Sf y)) s B I (fun y=>zOj (Q y)) F J C b h k
theorem zbr {M:Option Unit} {g:Unit->Option ρ} (reads writes ks:List Nat) {E0:Env} {S0:zAC} {E1:Env} {S1:zAC} {W:Vw} {ment:List (Nat×List Nat)}
  (f:zLp V reads=some E0) (s:zME V reads=some S0)
  (h:∀w0 X X0 σ0 F,PO (⟨G.P,G.fn,w0,X,X0,σ0,exK ks (zNf E0++nsB S0),fun _ _ _=>True,G.dz,G.L,F,G.ro⟩:Ctx Unit) (bnd M some) all [o] [.iter fun _ a w=>Pre (⟨G.P,G.fn,w0,X,X0,σ0,exK ks (zNf E0++nsB S0),fun _ _ _=>True,G.dz,G.L,F,G.ro⟩:Ctx Unit) (zLK writes E1) (zIk (zK9 writes++zBk writes S0) S1) a w] E0 S0)
  (H:wOf (zLK writes E1) (zIk (zK9 writes++zBk writes S0) S1) writes=some W) (J:zKz W=some ment)
  (k:∀y,M=some y->PDV G (g y) all ms ment0 rest (j+1) (⟨reads,writes,ks,ment⟩::acc) (W++V) K)
  (C:zH4 (ms.getD j 0) ment0 j ⟨reads,writes,ks,ment⟩ acc=true)
  (I:zHd G ks writes (zBk writes S0) S0 o=true) (B:zGG (exK ks (zNf E0++nsB S0)) ks writes (zBk writes S0) (zLK writes E1) (zIk (zK9 writes++zBk writes S0) S1)=true)
  (b:zJ9 (zBk writes S0) (zIk (zK9 writes++zBk writes S0) S1) S0):PDV G (bnd M g) all ms ment0 (o::rest) j acc V K :=
 zUR reads writes ks (exK ks (zNf E0++nsB S0)) (zBk writes S0) (fun _=>zLK writes E1) (fun _=>zIk (zK9 writes++zBk writes S0) S1) f s (fun _=>H) (fun _=>zOj J) C I (fun _=>B) (fun _=>b) h k
theorem zTB (reads writes ks:List Nat) {E0:Env} {S0:zAC} {E1:Env} {S1:zAC} {W:Vw} {ment:List (Nat×List Nat)}
  (f:zLp V reads=some E0) (s:zME V reads=some S0)
  (h:∀w0 X X0 σ0 F,PO (⟨G.P,G.fn,w0,X,X0,σ0,exK ks (zNf E0++nsB S0),fun _ _ _=>True,G.dz,G.L,F,G.ro⟩:Ctx Unit) (some ()) all [o] [.iter fun _ a w=>Pre (⟨G.P,G.fn,w0,X,X0,σ0,exK ks (zNf E0++nsB S0),fun _ _ _=>True,G.dz,G.L,F,G.ro⟩:Ctx Unit) (zLK writes E1) (zIk (zK9 writes++zBk writes S0) S1) a w] E0 S0)
  (H:wOf (zLK writes E1) (zIk (zK9 writes++zBk writes S0) S1) writes=some W) (J:zKz W=some ment)
  (k:PDV G m all ms ment0 rest (j+1) (⟨reads,writes,ks,ment⟩::acc) (W++V) K)
  (C:zH4 (ms.getD j 0) ment0 j ⟨reads,writes,ks,ment⟩ acc=true)
  (I:zHd G ks writes (zBk writes S0) S0 o=true) (B:zGG (exK ks (zNf E0++nsB S0)) ks writes (zBk writes S0) (zLK writes E1) (zIk (zK9 writes++zBk writes S0) S1)=true)
  (b:zJ9 (zBk writes S0) (zIk (zK9 writes++zBk writes S0) S1) S0):PDV G m all ms ment0 (o::rest) j acc V K :=
 zVl reads writes ks (exK ks (zNf E0++nsB S0)) (zBk writes S0) (zLK writes E1) (zIk (zK9 writes++zBk writes S0) S1) f s H (zOj J) C I B b h k
theorem zeE {H:Ctx Unit} {E1:Env} {S1:zAC} (b:zA2 ((zIk kp S1).map (·.1))=true):PO H (some ()) all [] [.iter fun _ a w=>Pre H (zLK wr E1) (zIk kp S1) a w] E1 S1 :=
 zGK (zPY zO2 zQq b)
end
structure Th (l:List Nat) (P:Prop):Prop where
 h:P
structure Tg (rn:List (Nat×Nat)) (ks:List Nat) (H:Prop):Prop where
 h:H
structure Tx {α : Type} (x : α):Prop where
theorem tx (x : α):Tx x:=⟨⟩
structure Gd (c:Nat) (l:List Nat) (P:Prop):Prop where
 h:P
theorem thQ (h:P):Th [] P:=⟨h⟩
theorem thG (c:Nat) {l:List Nat} {P:Prop} (h:Gd c l P):Th (c::l) P:=⟨h.h⟩
theorem thO (b:Nat) {k:Nat} {l:List Nat} {P:Prop} (h:Gd k l P):Th ((k+b)::l) P:=⟨h.h⟩
theorem gd1 {b:Prop} (k:Th l b) (h:b->P):Gd c l P:=⟨h k.h⟩
theorem gd2 {n:Nat} {b f:Prop} (k:Th (l.take n) b) (s:Th (l.drop n) f) (h:b->f->P):Gd c (n::l) P:=⟨h k.h s.h⟩
theorem gdX (m:List Nat) {l:List Nat} {P:Prop} (h:Th (m++l) P):Gd c l P:=⟨h.h⟩
theorem gdE (h:P):Gd c [] P:=⟨h⟩
end
section
variable {kk:IntKind}
section
variable {ρ : Type} {G:Ctx ρ} {m:Option ρ} {K:List (Kont ρ)} {E:Env} {S:zAC} {all:Array Oper}
theorem zam {T:Tab G.P} {o:Oper} {n:Int} (h:zRH T E o.op=some (kk,n)) {σ : Nat->Value} {φ : Nat->Nat->Prop} {w:World} {a:Act} (b:Pre' G E S a w σ φ):zCG G S o σ φ a w (.v (.int kk (kk.wrap n))):=by
 unfold zCG
 rw [zU7 b.env h]
 exact ⟨rfl,.d (.v rfl)⟩
theorem zXH {T:Tab G.P} {o:Oper} {rest:List Oper} {n:Int} {d:Nat} (s:gE all E o=some true) (h:zRH T E o.op=some (kk,n)) (f:o.dst=some d) (b:lB d G.fn.ntmps=true) (k:PO G m all rest K ((d,.v (.int kk (kk.wrap n)))::E) S):PO G m all (o::rest) K E S :=
 zDu s (fun _ _ _ _ B=>zam (T:=T) h B) f b k
theorem zZi {P:Program} {t:TypeId} {ms:Array (String×TypeId)} (w:World) (s:P.underlying t=some (.interface ms)) {b:Bool} {v:Value} (h:(b=false/\v=.nilIface)\/(b=true/\∃f u,v=.iface f u)):(Op.equal t v .nilIface).run P w=.ok (!b) w:=by
 have k:∀d:Nat,(Op.equalIn (d+1) t v .nilIface).run P w=.ok (!b) w:=fun d=>by
  rcases h with ⟨rfl,rfl⟩ | ⟨rfl,f,u,rfl⟩<;>simp [Op.equalIn,run_underlying s]
 simp [Op.equal,Op.maxDepth,k 9999]
end
end
section
variable {o:Oper} {rest:List Oper} {kk:IntKind} {σ:Nat->Value}
section
variable {ρ : Type} {G:Ctx ρ} {m:Option ρ} {K:List (Kont ρ)} {E:Env} {S:zAC} {all:Array Oper}
def Rnd (G:Ctx ρ) (body:Code) (K:List (Kont ρ)) (k:Nat) (r : ρ) (a:Act) (w:World):Prop:=Code.roundsIn (FR G.ro) 0 G.P body (kwp G r K) k a w
theorem zSC {body:Code} (k:Nat) (h:PW G m body (.iter (Rnd G body K k)::K) E S):PW G m (.loop body) K E S:=by
 intro r hr a w b
 refine wpIn_loop_rounds (k+1) ?_
 refine wpIn_mono (h r hr a w b) fun e f w' q=>?_
 cases e with
 | normal=>exact q
 | _=>exact q
theorem zC2 {body:Code} (k:Nat) (h:PW G m body (.iter (Rnd G body K k)::K) E S):PN G m (.iter (Rnd G body K (k+1))::K) E S:=by
 intro r hr a w b
 refine wpIn_mono (h r hr a w b) fun e f w' q=>?_
 cases e with
 | normal=>exact q
 | _=>exact q
theorem zge {m':Option ρ} (h:m=m') (k:PN G m' K E S):PN G m K E S:=by rw [h];exact k
theorem zCb {T:Tab G.P} {n:Int} {d:Nat} (y:Int) (s:gE all E o=some true) (h:zRH T E o.op=some (kk,n)) (f:o.dst=some d)
  (b:lB d G.fn.ntmps=true) (hy:rng kk n=some y) (k:PO G m all rest K ((d,.v (.int kk y))::E) S):PO G m all (o::rest) K E S :=
 zDu s (fun _ _ _ _=>zSs (T:=T) h hy) f b (by have e:=(zcD hy).1;subst e;exact k)
def zbP (E:Env):Nat->List (Nat×Operand)->Option (List PV)
 | _,[]=>some []
 | k,(i,x)::l=>bif lA i k then (match ev E x with
  | some (.loc n off)=>(match zbP E (k+1) l with
   | some ps=>some (.loc n off::ps)
   | none=>none)
  | _=>none) else none
theorem zVR {σ : Nat->Value} {w:World} {D:Nat->Prop} {a:Act} (H:zQV σ w D E a.tmps):∀{l:List (Nat×Operand)} {k:Nat} {cs:List PV} {us:List Value},zbP E k l=some cs->us.length=k+cs.length ->
  ∃b:List Value,Instr.fill (fun i=>some (i*1,1)) ⟨us⟩ (l.map fun (i,x)=>(i,a.eval x))=some ⟨b⟩/\b.length=us.length/\(∀i,i<k->b[i]? = us[i]?) /\
   ∀(i:Nat) (c:PV) (x:Value),cs[i]? = some c->b[k+i]? = some x->R σ w D c x
 | [],k,cs,us,h,_=>by
  simp [zbP] at h;subst h
  exact ⟨us,rfl,rfl,fun _ _=>rfl,by simp⟩
 | (i,x)::l,k,cs,us,h,hl=>by
  simp only [zbP] at h
  cases f:lA i k<;>simp only [f,cond_true,cond_false] at h
  ·simp at h
  have f:=lQ f
  subst f
  split at h<;>try simp at h
  rename_i n X W
  split at h<;>simp at h
  rename_i ps B
  subst h
  simp only [cP] at hl
  have hr:=zAm H W
  obtain ⟨v,I⟩:∃v,v=a.eval x:=⟨_,rfl⟩
  rw [<- I] at hr
  have zQP:v.cells = #[v]:=by
   cases hr with
   | loc hs=>rfl
   | d Q=>cases Q
  obtain ⟨b,J,L,F,M⟩:=zVR H (k:=i+1) (us:=us.set i v) B (by simp;omega)
  refine ⟨b,?_,by rw [L];simp,fun j hj=>?_,fun j c u s C=>?_⟩
  ·simp only [lT,Instr.fill,<- I,zQP]
   rw [iN (by simp;omega)]
   have hz:((#[v]:Array Value).zipIdx).foldl (fun cs (x:Value×Nat)=>cs.setIfInBounds (i*1+x.2) x.1) (⟨us⟩:Array Value)=⟨us.set i v⟩:=by
    rw [<- Array.foldl_toList,Array.toList_zipIdx]
    simp
   rw [hz]
   exact J
  ·rw [F j (by omega),gN (by omega)]
  ·cases j with
   | zero =>
    simp at s;subst s
    rw [cH,F i (by omega),gB (by omega)] at C
    cases C
    exact hr
   | succ j=>exact M j c u (by simpa using s) (by rw [<- C];congr 1;omega)
theorem zdK {n:Nat} {E':Env} {S':zAC} {cs f:List PV} {a:Act} {w:World} {φ : Nat->Nat->Prop} (h:Pre' G E S a w σ φ) (M:zEY G n=true) (F:zFh n E=some E') (H:zEx n S=some S') (I:zK3 n cs=some f)
  {us:List Value} {b:TypeId} (L:us.length=cs.length) (hr:∀(i:Nat) (c:PV) (x:Value),cs[i]? = some c->us[i]? = some x->R σ w (Dof G.X φ w S) c x) {d len:Nat} (J:d<G.fn.ntmps) :
  Pre G ((d,.bsl n len)::E') ((n,.box b f)::S') (a.put (some d) (.slice (some ⟨w.heap.size,0,none⟩) len len)) (w.alloc (.cells ⟨us⟩ b)):=by
 refine ⟨_,_,(h.new_ (hdr:=.pointer (some ⟨w.heap.size,0,none⟩)) (o:=.cells ⟨us⟩ b) (k:=.box b f) M F H fun D' C=>?_).put J (.bsl (by rw [zAw];rfl))⟩
 obtain ⟨Q,W⟩:=zQk (σ := σ) (w:=w) (D:=Dof G.X φ w S) (x:=.pointer (some ⟨w.heap.size,0,none⟩)) I
 exact .inl ⟨w.heap.size,us,rfl,fun x=>Iff.rfl,by rw [L,Q],⟨(0,0),zDP w _,by simp⟩,fun i c u s B=>(W hr i c u s B).mono C⟩
theorem zbx {T:Tab G.P} (n:Nat) {t e by_ len:Nat} {parts:Array (Nat×Operand)} {cs C:List PV} {z:Value} {d:Nat} {E':Env} {S':zAC} (ho:o.op=.buildSlice t len parts) (hg:gE all E o=some true)
  (ht:lku T.els t=some (e,1,by_)) (hz:lku T.zeros e=some z) (hr:zbP E 0 parts.toList=some cs) (h:len=cs.length) (H:Nat.ble 1 len=true) (W:Nat.ble len 10000=true) (hd:o.dst=some d) (X:lB d G.fn.ntmps=true) (hn:zEY G n=true)
  (hE:zFh n E=some E') (hS:zEx n S=some S') (hc:zK3 n cs=some C) (k:PO G m all rest K ((d,.bsl n len)::E') ((n,.box e C)::S')):PO G m all (o::rest) K E S:=by
 refine zGT hg fun r hrm a w ⟨σ,φ,hp⟩=>?_
 obtain ⟨Q,inf,b,hsz,hby⟩:=zBF (T.hels _ (zAc ht))
 have M:=T.hzeros _ (zAc hz)
 simp only [b,gA] at M
 have h1:=cZ H
 obtain ⟨zero,B⟩:∃zero:Array Value,zero=z.cells:=⟨_,rfl⟩
 obtain ⟨f,f1,f2,_,f4⟩:=zVR hp.env (k:=0) (us:=((gH (len*1)).map (zero[· % zero.size]!)).toList) hr (by simp [h])
 have J:¬(len*1>2 ^ 24):=by have:=cZ W;omega
 have s:f.length=cs.length:=by rw [f2];simp [h]
 have I:(execOp a.eval o).run G.P w=.ok (.value (.slice (some ⟨w.heap.size,0,none⟩) len len)) (w.alloc (.cells ⟨f⟩ e)):=by
  have hf:Instr.fill (fun i=>some (i*1,1)) ((gH (len*1)).map (zero[· % zero.size]!)) (parts.map fun (i,x)=>(i,a.eval x)).toList=some ⟨f⟩:=by
   have e1:(parts.map fun (i,x)=>(i,a.eval x)).toList=parts.toList.map fun (i,x)=>(i,a.eval x):=by simp
   rw [e1];exact f1
  have L:(sizeOf e).run G.P w=.ok 1 w:=by simp [sizeOf,typeInfo,b,hsz]
  simp only [execOp,ho,Instr.buildSlice,Sem.run_bind,run_underlying Q,Result.andThen_ok,L]
  rw [iN J]
  have F:∀zs:Array Value,zero=zs->(match Instr.fill (fun i=>some (i*1,1)) ((gH (len*1)).map (zs[· % zs.size]!)) (parts.map fun (x:Nat×Operand)=>(x.1,a.eval x.2)).toList with
    | some cells=>(do
     let __do_lift <- newRow e cells
     pure (Value.slice (some __do_lift) len len):Sem Value)
    | _ => stuck "buildSlice: a part of the wrong size").run G.P w = .ok (.slice (some ⟨w.heap.size, 0, none⟩) len len) (w.alloc (.cells ⟨f⟩ e)) := by
   rintro zs rfl
   rw [hf]
   simp [newRow]
  rw [iN (by omega)]
  have hzv:(zeroValue e).run G.P w=.ok z w:=by simp [zeroValue,typeInfo,b,M]
  simp only [Sem.run_bind,Sem.run_pure,hzv,Result.andThen_ok]
  exact (congrArg (fun x=>Result.andThen x fun a w'=>Result.ok (Next.value a) w') (F _ B)).trans rfl
 unfold Oper.wp
 rw [I,Oper.upon_value,hd]
 exact k r hrm _ _ (zdK hp hn hE hS hc s (fun i c x h1 h2=>f4 i c x h1 (by rw [dA];exact h2)) (zCS X))
theorem zKc {T:Tab G.P} {t:TypeId} {x Q:Operand} {n e by_ len i:Nat} {d:Nat} 
  (ho:o.op=.indexAddr t x Q) (X:gE all E o=some true) (hx:ev E x=some (.bsl n len)) (hi:ev E Q=some (.v (.int kk (i:Nat)))) (ht:lku T.els t=some (e,1,by_)) (s:lB i len=true)
  (F:o.dst=some d) (J:lB d G.fn.ntmps=true) (k:PO G m all rest K ((d,.loc n i)::E) S):PO G m all (o::rest) K E S:=by
 refine zGT X fun r hr a w ⟨σ,φ,L⟩=>?_
 obtain ⟨H,inf,f,M,_⟩:=zBF (T.hels _ (zAc ht))
 obtain ⟨I,_⟩:=(zAm L.env hi).flat_inv
 have C:=zAm L.env hx
 generalize hu:a.eval x=u at C
 have hl:=zCS s
 cases C with
 | d F=>cases F
 | @bsl _ _ b hs =>
  have W:(0:Int)<=(i:Int):=by omega
  have B:(execOp a.eval o).run G.P w=.ok (.value (.pointer (some ⟨b,i,none⟩))) w:=by
   simp [execOp,ho,hu,I,Instr.indexAt,asIntOf,run_underlying H,W,sizeOf,typeInfo,f,M,Addr.add,hl]
   intro h;exact h.symm
  unfold Oper.wp
  rw [B,Oper.upon_value,F]
  exact k r hr _ _ ⟨σ,φ,L.put (zCS J) (.loc hs)⟩
end
end
section
set_option linter.unusedVariables false
variable {w:World} {D' D:Nat->Prop} {p:PV} {σ:Nat->Value} {rows:List (List PV)} {ps qs:List PV} {N0 NR:List Nat}
def zC9:PV->Bool
 | .v _ | .err _ | .junk | .loc _ _ | .nloc _ _ | .ela _ _ _ _ | .own _ | .ownb _ | .dat _ | .bsl _ _ | .vw _ _ _ _=>true
 | .agg cs | .tup cs=>plainL cs
 | .sl _ _ rows=>rows.isEmpty
 | _=>false
where plainL:List PV->Bool
 | []=>true
 | p::l=>zC9 p&&plainL l
theorem zMi:∀{l:List PV} {i:Nat} {c:PV},zC9.plainL l=true->l[i]? = some c->zC9 c=true
 | [],i,c,_,h=>by simp at h
 | p::l,0,c,h,hc=>by
  simp only [zC9.plainL,lM] at h
  simp at hc;subst hc;exact h.1
 | p::l,i+1,c,h,hc=>by
  simp only [zC9.plainL,lM] at h
  exact zMi (i:=i) h.2 (by simpa using hc)
theorem zXi {w':World} {u:Value} (h:RD w D p u) (b:zC9 p=true):RD w' D' p u:=by
 induction h with
 | v hx=>exact .v hx
 | err0=>exact .err0
 | err1=>exact .err1
 | agg B _ F=>exact .agg B fun i c u k C=>F i c u k C (zMi (by simpa [zC9] using b) k)
 | tup B _ F=>exact .tup B fun i c u k C=>F i c u k C (zMi (by simpa [zC9] using b) k)
 | nil H s=>exact .nil H s
 | @sl size full rows a cap f H s I _ _ _ _ _ =>
  have:rows=[]:=by simpa [zC9] using b
  subst this
  exact .nil s fun h=>by rw [I h];rfl
 | el=>simp [zC9] at b
 | mp0=>simp [zC9] at b
 | mp1=>simp [zC9] at b
theorem zZ6 {w':World} {u:Value} (h:R σ w D p u) (k:zC9 p=true):R σ w' D' p u:=by
 induction h with
 | d H=>exact .d (zXi H k)
 | loc s=>exact .loc s
 | nloc0=>exact .nloc0
 | nloc1 s=>exact .nloc1 s
 | ela s=>exact .ela s
 | own b=>exact .own b
 | ownb b=>exact .ownb b
 | dat b=>exact .dat b
 | bsl b=>exact .bsl b
 | vw b=>exact .vw b
 | sel=>simp [zC9] at k
 | junk=>exact .junk
 | fn=>simp [zC9] at k
 | agg B _ F=>exact .agg B fun i c u f C=>F i c u f C (zMi (by simpa [zC9] using k) f)
 | tup B _ F=>exact .tup B fun i c u f C=>F i c u f C (zMi (by simpa [zC9] using k) f)
def zL3:Blk->Bool
 | .box _ cells=>cells.all zC9
 | .arr _ _ rows=>rows.all fun r=>r.all zC9
 | .siter _ _=>true
 | _=>false
theorem zgG (h:(rows.all fun r=>r.all zC9)=true) {i:Nat} {c:PV} (k:rows.flatten[i]? = some c):zC9 c=true:=by
 have s:=lU k
 obtain ⟨r,b,f⟩:=eG.1 s
 exact lR.1 (lR.1 h r b) c f
theorem zWM {hdr:Value} {fp:Nat->Prop} {k:Blk} (h:zCT σ w D hdr fp k) (f:zL3 k=true):zCT σ w D' hdr fp k:=by
 cases k with
 | box ty cells =>
  rcases h with ⟨b,us,C,F,H,⟨fr,I,J⟩,L⟩ | ⟨size,W,rows,Q,rfl,_⟩ | ⟨_,_,_,_,_,_,_,rfl,_⟩
  ·exact .inl ⟨b,us,C,F,H,⟨fr,I,J⟩,fun i c u B M=>zZ6 (L i c u B M) (lR.1 f c (lU B))⟩
  ·simp [zL3,pfx,zC9,zC9.plainL] at f
  ·simp [zL3,zC9,zC9.plainL] at f
 | arr e s rows =>
  obtain ⟨h0,h⟩:=h
  refine ⟨h0,?_⟩
  rcases h with h | ⟨b,us,cap,C,F,H,I,J,L,X⟩
  ·exact .inl h
  ·exact .inr ⟨b,us,cap,C,F,H,I,J,L,fun i c u B M=>zXi (X i c u B M) (zgG f B)⟩
 | siter s pos=>exact h
 | mp kvs=>cases f
 | tre=>cases f
def zdp:List (Nat×PV)->PV->PV
 | [],p=>p
 | (n,q)::l,p=>zdp l (zT5 n q p)
def zXh (S:zAC) (x:Nat×PV):Prop:=∃k0,lkS S x.1=some k0/\∀(σ : Nat->Value) (w:World) (D D':Nat->Prop) v fp,(∀b,D b->D' b)->(∀b,fp b->D' b)->zCT σ w D v fp k0->RD w D' x.2 v
theorem zYD {S:zAC} {n e size:Nat} (h:lkS S n=some (.arr e size rows)):zXh S (n,.sl size false rows) :=
 ⟨_,h,fun σ w D D' v fp b f k=>zTp (σ := σ) b f k⟩
theorem zOr {α β : Type} {S:zAC} {n e size kc ke:Nat} (f : β -> List PV×Bool) (g : β -> α) (enc : α -> List PV) (xs:List β) (b:∀x,(f x).1=enc (g x)) (F:∀x,(enc x).all zXq=true) (h:lkS S n=some (.tre e size kc ke (xs.map f))):zXh S (n,.sl size false ((xs.map g).map enc)) :=
 ⟨_,h,fun σ w D D' v fp s B C=>by
  have k:(xs.map g).map enc=(xs.map f).map (·.1):=by simp [b]
  show RD w D' (.sl size false ((xs.map g).map enc)) v
  rw [k]
  refine zYn s B (fun r hr=>?_) C
  obtain ⟨x,_,rfl⟩:=lE.1 hr
  rw [b];exact F _⟩
def zQz (S:zAC):List (Nat×PV)->Prop
 | []=>True
 | x::l=>zXh S x/\zQz S l
theorem zYC {σ : Nat->Value} {w:World} {D':Nat->Prop}:∀{b:List (Nat×PV)} {p:PV} {u:Value},(∀x∈b,RD w D' x.2 (σ x.1))->R σ w D' p u->R σ w D' (zdp b p) u
 | [],p,u,_,h=>h
 | (n,q)::l,p,u,hq,h=>zYC (p:=zT5 n q p) (fun x hx=>hq x (by simp [hx])) (zN1 (p':=zT5 n q p) (D:=D') (fun _ f=>f) (hq (n,q) (by simp)) h rfl)
theorem zQz.mem {S:zAC}:∀{l:List (Nat×PV)},zQz S l->∀x∈l,zXh S x
 | y::l,⟨h1,h2⟩,x,hx=>by
  rcases lD.1 hx with rfl | hx
  ·exact h1
  ·exact h2.mem x hx
section
variable {ρ : Type} {G:Ctx ρ} {m:Option ρ} {K:List (Kont ρ)} {E:Env} {S:zAC} {all:Array Oper}
theorem zZC {f:FuncId} {Sc Sr S1 S2:zAC} (ls:List (Nat×PV)) (ks:List Nat) (hc:FC G.L G.P f qs Sc N0 fun r S'=>r=p/\S'=Sr) (hS:zGN Sc S) (hNR:Sr.map (·.1)=NR)
  (hdr:zPP (Sc.map (·.1)) S=some S1) (hkS:zJi ks S1=some S2) {E':Env} (hkE:zHj ks E=some E')
  (h1:zA2 (Sc.map (·.1))=true) (h2:zA2 (NR++S2.map (·.1))=true) (h3:zOG NR (N0++ks)=true) (h4:ks.all (zEY G)=true) (h5:zDE (N0++ks) Sr=true) (h6:zD5 (N0++ks) [p]=true)
  (hl:zQz S ls) (hln:(ls.all fun x => !(Sc.map (·.1)).any (lA x.1))=true) (hq:ps.map (zdp ls)=qs) (hpl:zC9 p=true) (hpb:(Sr.all fun x=>zL3 x.2)=true)
  {σ : Nat->Value} {φ : Nat->Nat->Prop} {w:World} {a:Act} {us:List Value} (F:Pre' G E S a w σ φ) (hargs:RL σ w (Dof G.X φ w S) ps us) :
  Calls G.P f ⟨us⟩ w fun e w''=>∃u,e=.returned u/\∃σ2 φ2,Pre' G E' (Sr++S2) a w'' σ2 φ2/\R σ2 w'' (Dof G.X φ2 w'' (Sr++S2)) p u:=by
 have B:=zF0 hS h1
 let X':Nat->Prop:=fun b=>G.X b\/∃n k,(n,k)∈S/\n∉Sc.map (·.1)/\n∉ls.map (·.1) /\ φ n b
 have inSc:∀n k,(n,k)∈S->n∈Sc.map (·.1)->(n,k)∈Sc:=by
  intro n k s H
  obtain ⟨⟨n',k'⟩,h1,h2⟩:=lE.1 H
  simp only at h2;subst h2
  have h3:=B.1 _ h1
  have:k=k':=zOt F.inv.nodup s h3
  rw [this];exact h1
 have hDD:∀w b,Dof G.X φ w S b->Dof X' φ w Sc b:=fun w b ⟨h1,h2,h3⟩=>⟨h1,fun h=>by
  rcases h with h | ⟨n,k,h,_,_,C⟩
  ·exact h2 h
  ·exact h3 n k h C,fun n k h=>h3 n k (B.1 _ h)⟩
 have hi':Inv X' σ φ w Sc:=by
  refine ⟨B.2,fun b hb=>?_,fun b ⟨n,k,s,C⟩=>⟨(F.inv.lt b ⟨n,k,B.1 _ s,C⟩).1,fun h=>?_⟩,fun n m k l h1 h2=>F.inv.disj n m k l (B.1 _ h1) (B.1 _ h2),fun n k s=>(F.inv.ok n k (B.1 _ s)).mono (hDD w)⟩
  ·rcases hb with hb | ⟨n,k,h,_,_,C⟩
   ·exact F.inv.xlt b hb
   ·exact (F.inv.lt b ⟨n,k,h,C⟩).1
  ·rcases h with h | ⟨n',k',h,hn',_,J⟩
   ·exact (F.inv.lt b ⟨n,k,B.1 _ s,C⟩).2 h
   ·have M:n≠n':=fun e=>hn' (by rw [<- e];exact lE.2 ⟨_,s,rfl⟩)
    exact F.inv.disj n n' k k' (B.1 _ s) h M b C J
 -- what is lent is data for the callee
 have hlent:∀x∈ls,RD w (Dof X' φ w Sc) x.2 (σ x.1):=fun x hx=>by
  obtain ⟨k0,Q,W⟩:=hl.mem x hx
  have s:=zAl Q
  have hnS:x.1∉Sc.map (·.1):=fun h=>by
   have:=lR.1 hln x hx
   rw [zBE.2 h] at this
   cases this
  refine W σ w (Dof G.X φ w S) _ (σ x.1) (φ x.1) (hDD w) (fun b hb=>?_) (F.inv.ok x.1 k0 s)
  obtain ⟨I,g4⟩:=F.inv.lt b ⟨x.1,k0,s,hb⟩
  refine ⟨I,fun h=>?_,fun n k H C=>?_⟩
  ·rcases h with h | ⟨n',k',g5,_,g6,g7⟩
   ·exact g4 h
   ·have M:x.1≠n':=fun e=>g6 (by rw [<- e];exact lE.2 ⟨_,hx,rfl⟩)
    exact F.inv.disj x.1 n' k0 k' s g5 M b hb g7
  ·have M:x.1≠n:=fun e=>hnS (by rw [e];exact lE.2 ⟨_,H,rfl⟩)
   exact F.inv.disj x.1 n k0 k s (B.1 _ H) M b hb C
 have hargs':RL σ w (Dof X' φ w Sc) qs us:=by
  refine ⟨by rw [<- hq,lL];exact hargs.1,fun i c u Q W=>?_⟩
  rw [<- hq,lK] at Q
  obtain ⟨c0,I,rfl⟩:=lI.1 Q
  exact zYC hlent ((hargs.2 i c0 u I W).mono fun b hb=>⟨hDD w b hb,rfl⟩)
 refine (hc X' σ φ w us (F.laid fun _ C ⟨n,k,h,hb⟩=>C ⟨n,k,B.1 _ h,hb⟩) hi' hargs').mono ?_
 rintro e w' ⟨p',S',σ',φ',u,rfl,⟨rfl,rfl⟩,hi2,hru,hfr,hag,hnew⟩
 refine ⟨u,rfl,?_⟩
 have hin:∀{n:Nat},n∈N0++ks↔(N0++ks).any (lA n)=true:=zBE.symm
 let σ2:Nat->Value:=fun m=>if (N0++ks).any (lA m) then σ' m else σ m
 let φ2:Nat->Nat->Prop:=fun m=>if (S'.map (·.1)).any (lA m) then φ' m else φ m
 have hσi:∀n∈N0++ks,σ2 n = σ' n:=fun n H=>iP (hin.1 H)
 have hσk:∀n,n∉ks -> σ2 n = σ n:=fun n H=>by
  by_cases h:n∈N0++ks
  ·rw [hσi n h]
   exact hag n ((cA.1 h).resolve_right H)
  ·exact iN fun h'=>h (hin.2 h')
 have hφi:∀n k,(n,k)∈S' -> φ2 n = φ' n:=fun n k s=>iP (zBE.2 (lE.2 ⟨_,s,rfl⟩))
 have hnd:=zK7 h2
 rw [<- hNR] at hnd
 have hd12:=(dM.1 hnd).2.2
 have hφo:∀n k,(n,k)∈S2 -> φ2 n = φ n:=fun n k s=>iN fun h=>hd12 n (zBE.1 h) n (lE.2 ⟨_,s,rfl⟩) rfl
 have hS2:∀n k,(n,k)∈S2->n∉ks/\n∉Sc.map (·.1)/\∃k0,(n,k0)∈S/\ze0 ks k0 k:=fun n k s=>by
  obtain ⟨Q,k0,W,I⟩:=zM0 hkS n k s
  obtain ⟨g4,g5⟩:=zRW hdr n k0 W
  exact ⟨Q,g5,k0,g4,I⟩
 have hSr:∀n k,(n,k)∈S'->n∈N0++ks:=fun n k s=>zLu h3 n (by rw [<- hNR];exact lE.2 ⟨_,s,rfl⟩)
 have hfoot:∀b,zCQ φ2 (S'++S2) b->zCQ φ' S' b\/∃n k0,(n,k0)∈S/\n∉Sc.map (·.1) /\ φ n b:=fun b ⟨n,k,s,C⟩=>by
  rcases cA.1 s with s | s
  ·rw [hφi n k s] at C;exact .inl ⟨n,k,s,C⟩
  ·rw [hφo n k s] at C
   obtain ⟨_,W,k0,I,_⟩:=hS2 n k s
   exact .inr ⟨n,k0,I,W,C⟩
 have hold:∀b,b<w.heap.size->¬zCQ φ Sc b->w'.heap[b]? = w.heap[b]? := hfr.block
 have hsz:=hfr.size
 have hD3:∀b,Dof G.X φ w S b->Dof G.X φ2 w' (S'++S2) b/\w'.heap[b]? = w.heap[b]? := fun b ⟨a1,a2,a3⟩=>by
  have hnf:¬zCQ φ Sc b:=fun ⟨n,k,s,C⟩=>a3 n k (B.1 _ s) C
  refine ⟨⟨by omega,a2,fun n k s C=>?_⟩,hold b a1 hnf⟩
  rcases hfoot b ⟨n,k,s,C⟩ with g | ⟨n',k0,Q,_,I⟩
  ·exact hnf (hnew b g a1)
  ·exact a3 n' k0 Q I
 -- what the callee gives stands in none of ours
 have hnone:∀n k b,(n,k)∈S->n∉Sc.map (·.1) -> φ n b->¬zCQ φ' S' b:=fun n k b Q W I g4=>by
  obtain ⟨n',k',g5,g6⟩:=hnew b g4 (F.inv.lt b ⟨n,k,Q,I⟩).1
  have M:n≠n':=fun e=>W (by rw [e];exact lE.2 ⟨_,g5,rfl⟩)
  exact F.inv.disj n n' k k' Q (B.1 _ g5) M b I g6
 refine ⟨σ2,φ2,⟨F.dk fun b h1 h2=>hold b h1 fun ⟨n,k,s,C⟩=>h2 ⟨n,k,B.1 _ s,C⟩,F.size,fun t q ht=>?_,?_,?_,fun n H=>?_,fun b C hlt=>?_⟩,?_⟩
 ·rcases zOp hkE t q ht with rfl | ⟨Q,W⟩
  ·obtain ⟨v,hv⟩:∃v,a.tmps[t]? = some v:=by
    have:=zMz hkE t _ ht
    obtain ⟨q0,hq0⟩:=this
    obtain ⟨v,hv,_⟩:=F.env t q0 hq0
    exact ⟨v,hv⟩
   exact ⟨v,hv,.junk⟩
  ·obtain ⟨v,hv,hrv⟩:=F.env t q Q
   exact ⟨v,hv,(hrv.mono hD3).agree fun n H=>hσk n fun hk=>zPV (W n hk) n H rfl⟩
 ·refine ⟨by rw [gG];exact hnd,fun b hb=>by have:=F.inv.xlt b hb;omega,fun b C=>?_,fun n m k l H s M b C J=>?_,fun n k s=>?_⟩
  ·rcases hfoot b C with g | ⟨n,k0,Q,W,I⟩
   ·obtain ⟨Q,W⟩:=hi2.lt b g;exact ⟨Q,fun h=>W (.inl h)⟩
   ·obtain ⟨g4,g5⟩:=F.inv.lt b ⟨n,k0,Q,I⟩;exact ⟨by omega,g5⟩
  ·rcases cA.1 H with H | H<;>rcases cA.1 s with s | s
   ·rw [hφi _ _ H] at C;rw [hφi _ _ s] at J;exact hi2.disj n m k l H s M b C J
   ·rw [hφi _ _ H] at C;rw [hφo _ _ s] at J
    obtain ⟨_,W,k0,I,_⟩:=hS2 m l s
    exact hnone m k0 b I W J ⟨n,k,H,C⟩
   ·rw [hφo _ _ H] at C;rw [hφi _ _ s] at J
    obtain ⟨_,W,k0,I,_⟩:=hS2 n k H
    exact hnone n k0 b I W C ⟨m,l,s,J⟩
   ·rw [hφo _ _ H] at C;rw [hφo _ _ s] at J
    obtain ⟨_,_,k0,I,_⟩:=hS2 n k H
    obtain ⟨_,_,l0,g4,_⟩:=hS2 m l s
    exact F.inv.disj n m k0 l0 I g4 M b C J
  ·rcases cA.1 s with s | s
   ·rw [hφi n k s,hσi n (hSr n k s)]
    refine zCT.next (fun b hb=>⟨hb,rfl⟩) (fun _ _=>rfl) (zWM (hi2.ok n k s) (lR.1 hpb _ s)) fun _ cells e i c hc' m hmn=>hσi m ?_
    subst e
    exact zKv h5 n cells s i c hc' m hmn
   ·obtain ⟨Q,W,k0,I,g4⟩:=hS2 n k s
    rw [hφo n k s,hσk n Q]
    refine zCT.went hD3 (fun b C=>hold b (F.inv.lt b ⟨n,k0,I,C⟩).1 fun ⟨n',k',hm',J⟩=>?_) (F.inv.ok n k0 I) g4 hσk
    have M:n≠n':=fun e=>W (by rw [e];exact lE.2 ⟨_,hm',rfl⟩)
    exact F.inv.disj n n' k0 k' I (B.1 _ hm') M b C J
 ·refine ⟨hfr.os.trans F.fr.os,hfr.tape.trans F.fr.tape,hfr.output.trans F.fr.output,by have:=F.fr.size;omega,fun b hb' hx=>?_⟩
  have:=F.fr.size
  rw [hold b (by omega) fun ⟨n,k,s,C⟩=>hx (F.new b ⟨n,k,B.1 _ s,C⟩ hb')]
  exact F.fr.block b hb' hx
 ·rw [<- F.agree n H]
  refine hσk n fun hk=>?_
  have:=lR.1 h4 n hk
  unfold zEY at this
  rw [zBE.2 H] at this
  cases this
 ·have hsz0:=F.fr.size
  rcases hfoot b C with g | ⟨n,k0,Q,W,I⟩
  ·obtain ⟨n,k,s,C⟩:=hnew b g (by omega)
   exact F.new b ⟨n,k,B.1 _ s,C⟩ hlt
  ·exact F.new b ⟨n,k0,Q,I⟩ hlt
 ·exact zZ6 (hru.agree fun n H=>hσi n (zKw (i:=0) h6 rfl n H)) hpl
theorem zN8 {α : Type} {o:Oper} {rest:List Oper} {x:Operand} {f:FuncId} {args:Array Operand} {tys:Array TypeId} {M:Option α} {enc : α -> PV} {Sr : α -> zAC} {g : α -> Option ρ} {Sc S1 S2:zAC} (F:List (Nat×PV)) (ks:List Nat) {E':Env} {H:Option Nat}
  (hc:∀y,M=some y->FC G.L G.P f qs Sc N0 fun r S'=>r=enc y/\S'=Sr y) (hS:zGN Sc S) (I:∀y,(Sr y).map (·.1)=NR) (hdr:zPP (Sc.map (·.1)) S=some S1) (Q:zJi ks S1=some S2) (J:zHj ks E=some E')
  (h1:zA2 (Sc.map (·.1))=true) (h2:zA2 (NR++S2.map (·.1))=true) (h3:zOG NR (N0++ks)=true) (h4:ks.all (zEY G)=true) (h5:∀y,zDE (N0++ks) (Sr y)=true) (h6:∀y,zD5 (N0++ks) [enc y]=true)
  (hl:zQz S F) (W:(F.all fun x => !(Sc.map (·.1)).any (lA x.1))=true) (hq:ps.map (zdp F)=qs) (hpl:∀y,zC9 (enc y)=true) (hpb:∀y,((Sr y).all fun x=>zL3 x.2)=true)
  (ho:o.op=.call ⟨.value x,args,tys⟩) (hx:ev E x=some (.fn (.func f) [] [])) (hg:gE all E o=some true) (ha:zMG E args.toList ps) (hf:zAo G.P f=true) (hd:o.dst=H) (X:dstB H G.fn.ntmps=true)
  (k:∀y,M=some y->PO G (g y) all rest K (putE H (enc y) E') (Sr y++S2)):PO G (bnd M g) all (o::rest) K E S:=by
 refine zGJ fun y hy=>zGT hg fun r hr a w ⟨σ,φ,hp⟩=>?_
 obtain ⟨us,s,b⟩:=zVw hp ho hx ha hf
 rw [List.nil_append,gI] at b
 unfold Oper.wp
 rw [s,Oper.upon_enter]
 refine (zZC F ks (hc y hy) hS (I y) hdr Q J h1 h2 h3 h4 (h5 y) (h6 y) hl W hq (hpl y) (hpb y) hp b).mono ?_
 rintro e w'' ⟨u,rfl,B,C,h,hru⟩
 rw [hd]
 cases H with
 | none=>exact k y hy r hr _ _ ⟨B,C,h⟩
 | some d=>exact k y hy r hr _ _ ⟨B,C,h.put (zCS X) hru⟩
end
end
section
set_option linter.unusedVariables false
variable {e i n size kc ke:Nat} {rows:List (List PV×Bool)} {o:Oper} {rest:List Oper}
theorem zea {α : Type} {a b:List α} {x y : α} (h:a++[x]=b++[y]):a=b/\x=y:=by
 have:=List.append_inj' h rfl
 exact ⟨this.1,by simpa using this.2⟩
theorem zgK {s k J H C F:Nat} {r f:List (List PV×Bool)} (h:hpx s k e i r=hpx J H C F f):s=J/\k=H/\e=C/\i=F/\r=f:=by
 simp only [hpx,PV.tup.injEq,dU.injEq,PV.v.injEq,Value.int.injEq,PV.sl.injEq,true_and,and_true] at h
 obtain ⟨L,M,Q,W,B⟩:=h
 refine ⟨by omega,by omega,by omega,by omega,?_⟩
 clear L M Q W
 induction r generalizing f with
 | nil =>
  cases f with
  | nil=>rfl
  | cons=>simp at B
 | cons a r X =>
  cases f with
  | nil=>simp at B
  | cons b f =>
   rw [lT,lT,dU.injEq] at B
   obtain ⟨q1,I⟩:=zea B.1
   simp only [PV.v.injEq,Value.bool.injEq] at I
   rw [X B.2,Prod.ext q1 I]
section
variable {ρ : Type} {G:Ctx ρ} {m:Option ρ} {K:List (Kont ρ)} {E:Env} {S:zAC} {all:Array Oper}
theorem za7 {σ : Nat->Value} {φ : Nat->Nat->Prop} {w:World} {X:Nat->Prop} {c:PV} (hi:Inv X σ φ w S) (J:lkS S n=some (.box e [hpx size kc ke i rows,c])) :
  i<rows.length/\zHQ w (Dof X φ w S) (σ n) (φ n) e size kc ke rows/\∃u,zQP w (σ n) (i*size+kc)=some u/\R σ w (Dof X φ w S) c u:=by
 have h:=hi.ok n _ (zAl J)
 have F:(∃(b:Nat) (us:List Value),True/\us.length=(hpx size kc ke i rows::[c]).length/\zTZ σ w (Dof X φ w S) b e us (hpx size kc ke i rows::[c]))\/zNS σ w (Dof X φ w S) (σ n) (φ n) e (hpx size kc ke i rows::[c]):=by
  rcases h with ⟨b,us,_,_,B,C⟩ | h
  ·exact .inl ⟨b,us,trivial,B,C⟩
  ·exact .inr h
 obtain ⟨s,k,L,Q,r,M,u,f,H,B,C,I⟩:=hol_of F
 simp only [dU.injEq,and_true] at f
 obtain ⟨rfl,rfl,rfl,rfl,rfl⟩:=zgK f.1
 obtain rfl:=f.2
 exact ⟨H,B,u,C,I⟩
theorem zgl {b:Nat} {S':zAC} (f:lkS S n=some (.tre e size kc ke rows)) (B:zOD n (.box e [hpx size kc ke i rows,.own b]) S=some S') (hi:i<rows.length)
  {a:Act} {w:World} {σ : Nat->Value} {φ : Nat->Nat->Prop} (C:zQP w (σ n) (i*size+kc)=some (σ b)) (k:zKK (σ b)=true) (h:Pre' G E S a w σ φ):Pre' G E S' a w σ φ := by
 refine h.turn (zAl f) B rfl (fun _ _=>rfl) rfl rfl rfl fun D' s=>.inr (.inr ⟨size,kc,ke,i,rows,.own b,σ b,rfl,hi,?_,C,.own k⟩)
 exact zHQ.next s (fun _ _=>rfl) (h.inv.ok n _ (zAl f))
theorem zUV {T:Tab G.P} {f:Unit->Option ρ} (b:Nat) {t:TypeId} {x:Operand} {n size i e kc ke ks d:Nat} {own:Bool} {rows:List (List PV×Bool)} {row:List PV} {s:List (List PV)} {E':Env} {S1 S' S2:zAC} (Q:rows[i]? = some (row,own)) (ho:o.op=.load t x) (hg:gE all E o=some true) (hx:ev E x=some (.ela n size i kc))
  (hb:lkS S n=some (.tre e size kc ke rows)) (ht:lku T.tys t=some (false,1)) (hc:zVf row kc=some (.sl ks false s)) (I:o.dst=some d) (J:lB d G.fn.ntmps=true) (hn:zEY G b=true) (L:(S.map (·.1)).any (lA b)=false) (hE:zFh b E=some E') (B:zEx b S=some S1)
  (hS:zOD n (.tre e size kc ke (rows.set i (row.set kc .junk,false))) S1=some S') (F:lkS ((b,.arr ke ks s)::S') n=some (.tre e size kc ke (rows.set i (row.set kc .junk,false)))) (C:zOD n (.box e [hpx size kc ke i (rows.set i (row.set kc .junk,false)),.own b]) ((b,.arr ke ks s)::S')=some S2)
  (k:PO G (f ()) all rest K ((d,.own b)::E') S2):PO G (bnd (zSd own) f) all (o::rest) K E S :=
 zeF b Q ho hg hx hb ht hc I J hn L hE B hS fun r hr a w σ φ W H=>by
  obtain ⟨u,_,X⟩:=W.env d (.own b) (by simp [lk,dR])
  have h1:zKK (σ b)=true:=by
   generalize M:PV.own b=q at X
   cases X with
   | own h=>cases M;exact h
   | d I=>subst M;cases I
   | _=>cases M
  exact k r hr a w ⟨σ,φ,zgl F C (by rw [eE];exact (lF.1 Q).1) H h1 W⟩
theorem zPZ {T:Tab G.P} {α : Type} (xs:List α) {f : α -> Option ρ} {t:TypeId} {x ix:Operand} {n size e e' kc ke by_ i0:Nat} {rows:List (List PV×Bool)} {c:PV} {kk:IntKind} {i:Int} {d:Nat}
  (B:rows.length=xs.length) (ho:o.op=.indexAddr t x ix) (hg:gE all E o=some true) (hx:ev E x=some (.own n)) (hb:lkS S n=some (.box e' [hpx size kc ke i0 rows,c])) (hi:ev E ix=some (.v (.int kk i))) (ht:lku T.els t=some (e,size,by_))
  (I:o.dst=some d) (Q:lB d G.fn.ntmps=true) (k:∀y,idx xs i=some y->PO G (f y) all rest K ((d,.ela n size i.toNat 0)::E) S):PO G (bnd (idx xs i) f) all (o::rest) K E S:=by
 refine zGJ fun y hy=>zGT hg fun r hr a w ⟨σ,φ,F⟩=>?_
 have h:=hy
 unfold idx at h
 split at h
 case isFalse=>simp at h
 rename_i h0
 obtain ⟨J,inf,s,W,_⟩:=zBF (T.hels _ (zAc ht))
 obtain ⟨M,_⟩:=(zAm F.env hi).flat_inv
 have X:a.eval x = σ n:=by
  have:=zAm F.env hx
  generalize a.eval x=v at this
  cases this with
  | own=>rfl
  | d I=>cases I
 have hlen:i.toNat<xs.length:=(lF.1 h).1
 obtain ⟨_,⟨_,_,⟨g1,_⟩ | ⟨b,us,cap,Fs,H,_⟩⟩,_⟩:=za7 F.inv hb
 ·subst g1;simp at B;omega
 rw [B] at H
 have L:i<(xs.length:Int):=by omega
 have C:(execOp a.eval o).run G.P w=.ok (.value (.pointer (some ⟨b,i.toNat*size,none⟩))) w:=by
  simp [execOp,ho,X,H,M,Instr.indexAt,asIntOf,run_underlying J,h0,L,sizeOf,typeInfo,s,W,zCZ]
 unfold Oper.wp
 rw [C,Oper.upon_value,I]
 exact k y hy r hr _ _ ⟨σ,φ,F.put (zCS Q) (.ela (off:=0) (zHV H))⟩
theorem zN9 {T:Tab G.P} {t:TypeId} {x:Operand} {d J:Nat} (W:o.op=.load t x) (Q:gE all E o=some true) (hx:ev E x=some (.ela n size i kc))
  (L:lkS S n=some (.box e [hpx size kc ke i rows,.own J])) (X:lku T.tys t=some (false,1)) (s:o.dst=some d) (B:lB d G.fn.ntmps=true) (k:PO G m all rest K ((d,.own J)::E) S):PO G m all (o::rest) K E S:=by
 refine zDu Q (fun σ φ w a I=>?_) s B k
 obtain ⟨hi,⟨_,_,⟨f,_⟩ | ⟨b,us,cap,Fs,f,_,_,_,_,_,_,H,_⟩⟩,u,M,hr⟩:=za7 I.inv L
 ·rw [f] at hi;simp at hi
 have F:a.eval x=.pointer (some ⟨b,i*size+kc,none⟩):=by
  have:=zAm I.env hx
  generalize a.eval x=u at this
  cases this with
  | ela C=>rw [zHV f] at C;simp at C;subst C;rfl
  | d s=>cases s
 have h:w.cell? ⟨b,i*size+kc,none⟩=some u:=by
  rw [zBN H,<- M,f]
  simp [zQP,H]
 obtain ⟨q1,_⟩:=zIi (w:=w) (T.htys _ (zAc X))
 unfold zCG
 rw [show (execOp a.eval o).run G.P w=.ok (.value u) w by simp [execOp,W,F,Instr.loadAt,Instr.sureAddr,loadVar,q1,h]]
 exact ⟨rfl,hr⟩
theorem zgn {c:PV} {S':zAC} (b:lkS S n=some (.box e [hpx size kc ke i rows,c])) (k:zOD n (.tre e size kc ke rows) S=some S') {a:Act} {w:World}:Pre G E S a w->Pre G E S' a w:=fun ⟨σ,φ,f⟩ =>
 ⟨σ,φ,f.turn (zAl b) k rfl (fun _ _=>rfl) rfl rfl rfl fun D' h=>zHQ.next h (fun _ _=>rfl) (za7 f.inv b).2.1⟩
theorem zb0 {ops:List Oper} (n:Nat) {e size kc ke i:Nat} {rows:List (List PV×Bool)} {c:PV} {S':zAC} (f:lkS S n=some (.box e [hpx size kc ke i rows,c])) (b:zOD n (.tre e size kc ke rows) S=some S') (k:PO G m all ops K E S'):PO G m all ops K E S:=fun r hr a w h=>k r hr a w (zgn f b h)
def zPy (b:Bool):Option Unit:=if b then none else some ()
theorem zOA {T:Tab G.P} {f:Unit->Option ρ} {t:TypeId} {x:Operand} {off sz:Nat} {g:Bool} {q:PV} {d:Nat} {own:Bool} {row:List PV} (Q:rows[i]? = some (row,own)) (J:o.op=.load t x) (hg:gE all E o=some true) (hx:ev E x=some (.ela n size i off))
  (hb:lkS S n=some (.tre e size kc ke rows)) (ht:lku T.tys t=some (g,sz)) (hq:zNW g sz (row.drop off)=some q) (I:o.dst=some d) (h:lB d G.fn.ntmps=true) (k:PO G (f ()) all rest K ((d,q)::E) S):PO G (bnd (zPy own) f) all (o::rest) K E S:=by
 refine zGJ fun u F=>?_
 have C:own=false:=by cases own<;>simp [zPy] at F ⊢
 subst C
 refine zDu hg (fun σ φ w a W=>?_) I h k
 obtain ⟨b,us,cap,Fs,g1,g2,g3,g4,g5,g6,g7,g8,g9,s,B,g12,g13⟩:=zSD (W.inv.ok n _ (zAl hb)) Q
 have M:a.eval x=.pointer (some ⟨b,i*size+off,none⟩):=by
  have:=zAm W.env hx
  generalize a.eval x=u at this
  cases this with
  | ela L=>rw [zHV g1] at L;simp at L;subst L;rfl
  | d I=>cases I
 obtain ⟨z,h1,h2⟩:=zP4 (P:=G.P) (σ := σ) (w:=w) (D:=Dof G.X φ w S) (T.htys _ (zAc ht)) (ad:=⟨b,i*size+off,none⟩) (fun j c H=>by
  rw [cD] at H
  have h:=(lF.1 H).1
  simp only at B
  rw [B] at h
  have F:=lC (s (off+j) h)
  refine ⟨us[i*size+(off+j)]'(s _ h),by rw [zCZ,zBN g8,Nat.add_assoc];exact F,?_⟩
  rcases ((g9 i _ Q).2 _ c _ H F).2 (fun J=>by cases J.1) with rfl | hr
  ·exact .junk
  ·exact .d hr) hq
 unfold zCG
 rw [show (execOp a.eval o).run G.P w=.ok (.value z) w by simp [execOp,J,M,h1]]
 exact ⟨rfl,h2⟩
end
end
section
set_option linter.unusedVariables false
variable {α:Type} {size n i j e d:Nat} {w:World} {D:Nat->Prop} {o:Oper} {rest:List Oper} {rows:List (List PV)} {σ:Nat->Value} {t:TypeId} {x:Operand} {us:List Value}
def zNZ (L:Nat) (l h:Int):Option Unit:=if 0<=l/\l<=h/\h<=(L:Int) then some () else none
def cut3 (L:Nat) (l h m:Int):Option Unit:=if 0<=l/\l<=h/\h<=m/\m<=(L:Int) then some () else none
def delB (L i j k:Nat):Option Unit:=if i<j/\j<=k/\k=L then some () else none
def ze8 (L i k:Nat):Option Unit:=if i<=k/\k=L then some () else none
def zZl (L k:Nat):Option Unit:=if k<=L then some () else none
def zOf {α : Type} (xs:List α) (i j:Nat):List α := xs.take i++xs.drop j++xs.drop (i+(xs.length - j))
def zPw {α : Type} (xs:List α) (i:Nat) (z : α):List α := xs.take i++dH (xs.length - i) z
theorem zdO {xs:List α} (h:i<j) (b:j<=xs.length):(zOf xs i j).length=xs.length:=by
 simp [zOf];omega
theorem zf9 {xs:List α} (h:i<j) (k:j<=xs.length) (r:Nat):(zOf xs i j)[r]? = if i<=r/\r<i+(xs.length - j) then xs[r - i+j]? else xs[r]? := by
 unfold zOf
 by_cases b:r<i
 ·rw [iN (by omega),lN (by simp;omega),lN (by simp;omega),lV,iP b]
 ·by_cases f:r<i+(xs.length - j)
  ·rw [iP (by omega),lN (by simp;omega),cC (by simp;omega),cD]
   congr 1;simp;omega
  ·rw [iN (by omega),cC (by simp;omega),cD]
   congr 1;simp;omega
theorem zf2 {xs:List α} {z : α} (hi:i<=xs.length) (r:Nat):(zPw xs i z)[r]? = if r<i then xs[r]? else if r<xs.length then some z else none:=by
 unfold zPw
 by_cases b:r<i
 ·rw [iP b,lN (by simp;omega),lV,iP b]
 ·rw [iN b,cC (by simp;omega),eD]
  by_cases f:r<xs.length
  ·rw [iP (by simp;omega),iP f]
  ·rw [iN (by simp;omega),iN f]
theorem zP9 (zs:List Value) (m q:Nat) (b:q<m*zs.length):(Builtin.zeroCells ⟨zs⟩ m).toList[q]? = zs[q % zs.length]? := by
 unfold Builtin.zeroCells
 have f:0<zs.length:=by
  rcases cT zs.length with h | h
  ·rw [h] at b;omega
  ·exact h
 have k:=Nat.mod_lt q f
 simp [b,k]
theorem zJD (zs:List Value) (m:Nat):(Builtin.zeroCells ⟨zs⟩ m).toList.length=m*zs.length:=by simp [Builtin.zeroCells]
section
variable {ρ : Type} {G:Ctx ρ} {m:Option ρ} {K:List (Kont ρ)} {E:Env} {S:zAC} {all:Array Oper}
def curL (L:Nat):PV->Int
 | .vw _ _ k _=>(k:Nat)
 | _=>(L:Nat)
theorem zMo {a:Option Addr} {m c k:Nat}:zSM (.slice a m c) 0 k size=.slice a k c:=by
 cases a<;>simp [zSM,Addr.add]
theorem zUn {X:Nat->Prop} {φ : Nat->Nat->Prop} (h:zCT σ w D (σ n) (φ n) (.arr e size rows)):∃f cap,σ n=.slice f rows.length cap/\rows.length<=cap:=by
 rcases h.2 with ⟨rfl,⟨f,s⟩,_⟩ | ⟨b,us,cap,k,_,_,B,_⟩
 ·exact ⟨f,0,s,cG _⟩
 ·exact ⟨_,cap,k,B.1⟩
theorem zTS {u:Value} (h:R σ w D (.vw n i j size) u):u=zSM (σ n) i j size:=by
 cases h with
 | vw=>rfl
 | d b=>cases b
theorem zUO {u:Value} (h:R σ w D (.own n) u):u = σ n:=by
 cases h with
 | own=>rfl
 | d b=>cases b
theorem zOB {T:Tab G.P} {f:Unit->Option ρ} {L:Nat} {lo hi:Option Operand} {p:PV} {e' by_:Nat} {l h:Int} 
  (M:p=.own n\/∃k,p=.vw n 0 k size) (ho:o.op=.slice t x lo hi none) (hg:gE all E o=some true) (hx:ev E x=some p) (hb:lkS S n=some (.arr e size rows)) (hL:rows.length=L) (hl:zcy E 0 lo=some l) (hh:zcy E (curL L p) hi=some h) (ht:lku T.els t=some (e',size,by_)) (hd:o.dst=some d) (J:lB d G.fn.ntmps=true)
  (k:PO G (f ()) all rest K ((d,.vw n l.toNat h.toNat size)::E) S):PO G (bnd (zNZ L l h) f) all (o::rest) K E S:=by
 refine zGJ fun u W=>?_
 unfold zNZ at W
 split at W
 case isFalse=>cases W
 rename_i hr
 obtain ⟨p1,p2,p3⟩:=hr
 refine zDu hg (fun σ φ w a C=>?_) hd J k
 obtain ⟨I,inf,s,Q,_⟩:=zBF (T.hels _ (zAc ht))
 obtain ⟨ao,cap,F,hcap⟩:=zUn (X:=G.X) (φ := φ) (C.inv.ok n _ (zAl hb))
 have B:zKK (σ n)=true:=by rw [F];rfl
 obtain ⟨m,hxv,hm⟩:∃m,a.eval x=.slice ao m cap/\curL L p=((m:Nat):Int):=by
  have hr:=zAm C.env hx
  rcases M with rfl | ⟨k,rfl⟩
  ·exact ⟨rows.length,(zUO hr).trans F,by rw [hL];rfl⟩
  ·exact ⟨k,by rw [zTS hr,F,zMo],rfl⟩
 rw [hm] at hh
 have H:=zJK (P:=G.P) (b:=true) (len:=m) (cap:=cap) (w:=w) p1 p2 (by omega) (zPI C.env hl) (zPI C.env hh)
 unfold zCG
 rw [show (execOp a.eval o).run G.P w=.ok (.value (zSM (σ n) l.toNat h.toNat size)) w by
  rw [F];simp [execOp,ho,hxv,Instr.sliceAt,Instr.slice,run_underlying I,H,sizeOf,typeInfo,s,Q,zSM]]
 exact ⟨rfl,.vw B⟩
theorem zbw {T:Tab G.P} {f:Unit->Option ρ} {L:Nat} {lo hi mx:Operand} {e' by_:Nat} {l h b:Int} {k1 k2 k3:IntKind} 
  (ho:o.op=.slice t x (some lo) (some hi) (some mx)) (hg:gE all E o=some true) (hx:ev E x=some (.own n)) (hb:lkS S n=some (.arr e size rows)) (hl:ev E lo=some (.v (.int k1 l))) (hh:ev E hi=some (.v (.int k2 h))) (hm:ev E mx=some (.v (.int k3 b))) (ht:lku T.els t=some (e',size,by_)) (hL:rows.length=L) (hd:o.dst=some d) (J:lB d G.fn.ntmps=true)
  (k:PO G (f ()) all rest K ((d,.junk)::E) S):PO G (bnd (cut3 L l h b) f) all (o::rest) K E S:=by
 refine zGJ fun u hu=>?_
 unfold cut3 at hu
 split at hu
 case isFalse=>cases hu
 rename_i hr
 obtain ⟨p1,p2,p3,p4⟩:=hr
 refine zDu hg (fun σ φ w a B=>?_) hd J k
 obtain ⟨H,inf,s,W,_⟩:=zBF (T.hels _ (zAc ht))
 obtain ⟨C,cap,hs,hcap⟩:=zUn (X:=G.X) (φ := φ) (B.inv.ok n _ (zAl hb))
 have hxv:a.eval x=.slice C rows.length cap:=(zUO (zAm B.env hx)).trans hs
 obtain ⟨M,_⟩:=(zAm B.env hl).flat_inv
 obtain ⟨I,_⟩:=(zAm B.env hh).flat_inv
 obtain ⟨Q,_⟩:=(zAm B.env hm).flat_inv
 have sb:∀(k:IntKind) (x:Int) (n:Nat) (c:BoundsCode),0<=x->x<=(n:Int)->(Instr.sliceBound (.int k x) n c).run G.P w=.ok x.toNat w:=by
  intro k x n c h0 hn
  simp [Instr.sliceBound,asIntOf,h0,hn]
 have F:(Instr.sliceBounds true rows.length cap (some (.int k1 l)) (some (.int k2 h)) (some (.int k3 b))).run G.P w=.ok (l.toNat,h.toNat,b.toNat) w:=by
  unfold Instr.sliceBounds
  simp [sb k3 b cap _ (by omega) (by omega),sb k2 h b.toNat _ (by omega) (by omega),sb k1 l h.toNat _ p1 (by omega)]
 have hv:(execOp a.eval o).run G.P w=.ok (.value (.slice (if b.toNat=l.toNat then C else C.map fun x=>x.add (l.toNat*size)) (h.toNat - l.toNat) (b.toNat - l.toNat))) w:=by
  simp [execOp,ho,hxv,M,I,Q,Instr.sliceAt,Instr.slice,run_underlying H,F,sizeOf,typeInfo,s,W]
 unfold zCG
 rw [hv]
 exact ⟨rfl,.junk⟩
theorem zVn {args:Array Operand} {tys:Array TypeId} {T:Tab G.P} {g:Nat×Nat×Nat} (M:o.op=.call ⟨.builtin .len,args,tys⟩) (s:args.toList=[x]) (B:tys.toList=[t]) (L:gE all E o=some true) (hx:ev E x=some (.vw n i j size))
  (I:lkS S n=some (.arr e size rows)) (W:lku T.els t=some g) (J:o.dst=some d) (h:lB d G.fn.ntmps=true) (k:PO G m all rest K ((d,.v (.int .i64 ((j - i:Nat):Int)))::E) S):PO G m all (o::rest) K E S:=by
 refine zDu L (fun σ φ w a F=>?_) J h k
 obtain ⟨args⟩:=args
 obtain ⟨tys⟩:=tys
 simp only at s B
 subst s B
 obtain ⟨e0,s0,b0⟩:=g
 obtain ⟨f,_⟩:=zBF (T.hels _ (zAc W))
 obtain ⟨H,cap,Q,C⟩:=zUn (X:=G.X) (φ := φ) (F.inv.ok n _ (zAl I))
 have b:=zTS (zAm F.env hx)
 rw [Q] at b
 unfold zCG
 rw [show (execOp a.eval o).run G.P w=.ok (.value (.int .i64 ((j - i:Nat):Int))) w by
  have:(Builtin.len_ #[t] o.type #[zSM (.slice H rows.length cap) i j size]).run G.P w=.ok (.int .i64 ((j - i:Nat):Int)) w:=by
   simp [Builtin.len_,run_underlying f,goInt,zSM]
  simp [execOp,M,resolve,invoke,builtin,b,this]]
 exact ⟨rfl,.d (.v rfl)⟩
theorem zLE {enc : α -> List PV} {xs:List α} (f:∀b∈xs.map enc,b.length=size) (h:∀(i:Nat) (c:PV) (u:Value),(xs.map enc).flatten[i]? = some c->us[i]? = some u->RD w D c u)
  {r q:Nat} {x : α} {c:PV} {u:Value} (hx:xs[r]? = some x) (s:q<size) (k:(enc x)[q]? = some c) (B:us[r*size+q]? = some u):RD w D c u :=
 h _ c u (by rw [zEC f (by rw [lK,hx];rfl) s,k]) B
theorem zUc {enc : α -> List PV} {ys:List α} (s:∀k∈ys.map enc,k.length=size)
  (h:∀(r q:Nat) (y : α) (c:PV) (u:Value),ys[r]? = some y->q<size->(enc y)[q]? = some c->us[r*size+q]? = some u->RD w D c u):∀(i:Nat) (c:PV) (u:Value),(ys.map enc).flatten[i]? = some c->us[i]? = some u->RD w D c u:=by
 intro i c u f F
 have b:=(lF.1 f).1
 rw [zI9 s,lL] at b
 have C:0<size:=by
  rcases cT size with h | h
  ·rw [h] at b;omega
  ·exact h
 have hr:i / size<ys.length:=(Nat.div_lt_iff_lt_mul C).2 b
 have B:=Nat.mod_lt i C
 have hi:i / size*size+i % size=i:=by rw [Nat.mul_comm];exact Nat.div_add_mod i size
 have hy:ys[i / size]? = some ys[i / size]:=lC hr
 rw [<- hi] at f F
 rw [zEC s (by rw [lK,hy];rfl) B] at f
 exact h _ _ _ c u hy B f F
theorem zV2 {g c:Nat} {cs:Array Value} (h:c≠g):(w.setRow g cs).heap[c]? = w.heap[c]? := by
 unfold World.setRow
 simp [d9,Ne.symm h]
theorem zP8 {T:Tab G.P} {f:Unit->Option ρ} (enc : α -> List PV) (xs:List α) {args:Array Operand} {tys:Array TypeId} {t n e size by_:Nat} {x y:Operand} {i j k':Nat} {d:Nat} {S':zAC}
  (he:lB e zLI=true) (ho:o.op=.call ⟨.builtin .append,args,tys⟩) (h1:args.toList=[x,y]) (h2:tys.toList=[t,t]) (hg:gE all E o=some true) (hx:ev E x=some (.vw n 0 i size)) (hy:ev E y=some (.vw n j k' size)) (hb:lkS S n=some (.arr e size (xs.map enc))) (ht:lku T.els t=some (e,size,by_))
  (hone:∀r∈xs.map enc,r.all zGd=true) (hd:o.dst=some d) (hlt:lB d G.fn.ntmps=true) (hS:zOD n (.arr e size ((zOf xs i j).map enc)) S=some S')
  (k:PO G (f ()) all rest K ((d,.vw n 0 (i+(k' - j)) size)::E) S'):PO G (bnd (delB xs.length i j k') f) all (o::rest) K E S:=by
 refine zGJ fun u I=>?_
 unfold delB at I
 split at I
 case isFalse=>cases I
 rename_i hr
 obtain ⟨p1,p2,rfl⟩:=hr
 refine zGT hg fun r hr a w ⟨σ,φ,hp⟩=>?_
 have J:=zAl hb
 obtain ⟨hel,inf,hinf,hsz,_⟩:=zBF (T.hels _ (zAc ht))
 obtain ⟨g0,gb⟩:=hp.inv.ok n _ J
 rcases gb with ⟨h3,_⟩ | ⟨b,us,cap,h3,h3',h4,h5,h6,⟨fr,h7,h7',h7''⟩,h8⟩
 ·have:xs=[]:=by simpa using h3
  subst this;simp at p2;omega
 rw [lL] at h3 h5
 obtain rfl:=h7'' he
 rw [zIu he] at h7
 obtain ⟨args⟩:=args
 obtain ⟨tys⟩:=tys
 simp only at h1 h2
 subst h1 h2
 have hxv:a.eval x=.slice (some ⟨b,0,none⟩) i cap:=by rw [zTS (zAm hp.env hx),h3,zMo]
 obtain ⟨ad,hyv,had⟩:∃ad:Addr,a.eval y=.slice (some ad) (xs.length - j) (cap - j)/\(j<cap->ad=⟨b,j*size,none⟩):=by
  rw [zTS (zAm hp.env hy),h3]
  by_cases H:cap=j
  ·exact ⟨⟨b,0,none⟩,by simp [zSM,H],fun h=>by omega⟩
  ·exact ⟨⟨b,j*size,none⟩,by simp [zSM,H,zCZ],fun _=>rfl⟩
 have hle:xs.length*size<=us.length:=by rw [h4];exact lO _ h5.1
 have hjl:j*size<=xs.length*size:=lO _ p2
 have hsub:(xs.length - j)*size=xs.length*size - j*size:=dF ..
 obtain ⟨s,M⟩:∃s,s=(us.drop (j*size)).take ((xs.length - j)*size):=⟨_,rfl⟩
 have hnl:s.length=(xs.length - j)*size:=by rw [M];simp;omega
 have L:∀q,q<s.length->s[q]? = us[j*size+q]? := fun q W=>by rw [M,lV,iP (by omega),cD]
 have hncell:∀q u,s[q]? = some u->w.cell? (ad.add q)=some u:=fun q u hqu=>by
  have W:=(lF.1 hqu).1
  have hlt:j<cap:=by
   rcases lY j xs.length with h | h
   ·omega
   ·rw [hnl,show xs.length - j=0 by omega] at W;simp at W
  rw [had hlt,zCZ,zBN h7,<- L q W];exact hqu
 have hrows:∀(C:List PV),C∈xs.map enc->C.length=size:=g0
 have hn1:∀u∈s,u.oneCell'=true:=fun u I=>by
  obtain ⟨q,W,rfl⟩:=gO.1 I
  have h1:=L q W
  rw [lC W] at h1
  have hql:j*size+q<(xs.map enc).flatten.length:=by rw [zI9 g0,lL];omega
  have H:=gC hql
  obtain ⟨C,hr1,hr2⟩:=eG.1 H
  exact zOa (σ := σ) (.d (h8 _ _ _ (lC hql) h1.symm)) (lR.1 (hone C hr1) _ hr2)
 have hfit:i*size+s.length<=us.length:=by
  have:i*size<=j*size:=lO _ (by omega)
  omega
 have F:=run_append_room (P:=G.P) w t o.type e inf hel hinf b i cap ⟨us⟩ h7 ad (xs.length - j) (cap - j) s (by rw [hnl,hsz]) hncell hn1 (by omega) (by rw [hsz];exact hfit)
 obtain ⟨B,Q⟩:∃B,B=us.take (i*size)++s++us.drop (i*size+s.length):=⟨_,rfl⟩
 rw [hsz] at F
 simp only at F
 rw [<- Q] at F
 have hul:B.length=us.length:=by rw [Q];simp;omega
 have hlen:=zdO p1 p2
 have hat:∀q,B[q]? = if i*size<=q/\q<i*size+s.length then us[j*size+(q - i*size)]? else us[q]? := fun q=>by
  rw [Q]
  by_cases q1:q<i*size
  ·rw [iN (by omega),lN (by simp;omega),lN (by simp;omega),lV,iP q1]
  ·by_cases q2:q<i*size+s.length
   ·rw [iP (by omega),lN (by simp;omega),cC (by simp;omega)]
    have:(us.take (i*size)).length=i*size:=by simp;omega
    rw [this];exact L _ (by omega)
   ·rw [iN (by omega),cC (by simp;omega),cD]
    congr 1;simp;omega
 have hall:∀C∈(zOf xs i j).map enc,C.length=size:=fun C hrow=>by
  obtain ⟨z,hz,rfl⟩:=lE.1 hrow
  refine g0 _ (dJ ?_)
  unfold zOf at hz
  rcases cA.1 hz with hz | hz
  ·rcases cA.1 hz with hz | hz
   ·exact gY hz
   ·exact eH hz
  ·exact eH hz
 have hw':(w.setRow b B.toArray).heap[b]? = some (.cells ⟨B⟩ e (0,0)):=setRow_heap w b ⟨us⟩ _ e (0,0) h7
 have hoth:∀c,c≠b->(w.setRow b B.toArray).heap[c]? = w.heap[c]? := fun c H=>zV2 H
 have hex:(execOp a.eval o).run G.P w=.ok (.value (.slice (some ⟨b,0,none⟩) (i+(xs.length - j)) cap)) (w.setRow b B.toArray):=by
  simp [execOp,ho,resolve,invoke,builtin,hxv,hyv,F]
 unfold Oper.wp
 rw [hex,Oper.upon_value,hd]
 have hD0:∀c,Dof G.X φ w S c->(w.setRow b B.toArray).heap[c]? = w.heap[c]? := fun c H=>hoth c fun e=>H.2.2 n _ J ((h3' c).2 e)
 have hturn:=hp.turn (w':=w.setRow b B.toArray) J hS (by simp [World.setRow]) (fun c H=>hoth c fun e=>H ((h3' c).2 e)) rfl rfl rfl fun D' hD=>by
  refine ⟨hall,.inr ⟨b,B,cap,by rw [lL,hlen];exact h3,h3',by rw [hul,h4],⟨by rw [lL,hlen];exact h5.1,h5.2⟩,h6,⟨(0,0),by rw [zIu he];exact hw',by simp,fun _=>rfl⟩,zUc hall fun r q y c u hy W H I=>?_⟩⟩
  rw [zf9 p1 p2] at hy
  rw [hat] at I
  by_cases h9:i<=r/\r<i+(xs.length - j)
  ·rw [iP h9] at hy
   have e1:i*size<=r*size:=lO _ h9.1
   have e2:(r+1)*size<=(i+(xs.length - j))*size:=lO _ h9.2
   rw [cI,cI,<- hnl] at e2
   rw [iP (by omega)] at I
   have e3:(r - i+j)*size=r*size - i*size+j*size:=by rw [cI,dF]
   rw [show j*size+(r*size+q - i*size)=(r - i+j)*size+q by rw [e3];omega] at I
   exact (zLE g0 h8 hy W H I).mono hD
  ·rw [iN h9] at hy
   have e0:¬(i*size<=r*size+q/\r*size+q<i*size+s.length):=by
    rintro ⟨e1,e2⟩
    rw [hnl,<- cI] at e2
    rcases lY r i with h | h
    ·have:=lO size (show r+1<=i from h)
     rw [cI] at this;omega
    ·have:=lO size (show i+(xs.length - j)<=r by omega)
     omega
   rw [iN e0] at I
   exact (zLE g0 h8 hy W H I).mono hD
 refine k r hr _ _ ⟨σ,φ,hturn.put (zCS hlt) ?_⟩
 have:R σ (w.setRow b B.toArray) (Dof G.X φ (w.setRow b B.toArray) S') (.vw n 0 (i+(xs.length - j)) size) (zSM (σ n) 0 (i+(xs.length - j)) size):=.vw (by rw [h3];rfl)
 rw [h3,zMo] at this
 exact this
theorem zN7 {T:Tab G.P} {f:Unit->Option ρ} (enc : α -> List PV) (xs:List α) (z0 : α) {args:Array Operand} {tys:Array TypeId} {t n e e' size by_:Nat} {x:Operand} {i k':Nat} {z:Value} {zs:List Value} {S':zAC}
  (ho:o.op=.call ⟨.builtin .clear,args,tys⟩) (h1:args.toList=[x]) (h2:tys.toList=[t]) (hg:gE all E o=some true) (hx:ev E x=some (.vw n i k' size)) (hb:lkS S n=some (.arr e' size (xs.map enc))) (ht:lku T.els t=some (e,size,by_)) (hz:lku T.zeros e=some z) (hzc:z.cells=⟨zs⟩) (C:zs.length=size) (L:enc z0=zs.map .v) (hzf:zs.all (fun u=>zSy u&&u.oneCell')=true)
  (hd:o.dst=none) (hS:zOD n (.arr e' size ((zPw xs i z0).map enc)) S=some S')
  (k:PO G (f ()) all rest K E S'):PO G (bnd (ze8 xs.length i k') f) all (o::rest) K E S:=by
 refine zGJ fun u s=>?_
 unfold ze8 at s
 split at s
 case isFalse=>cases s
 rename_i hr
 obtain ⟨p1,rfl⟩:=hr
 refine zGT hg fun r hr a w ⟨σ,φ,hp⟩=>?_
 have Q:=zAl hb
 obtain ⟨I,inf,M,hsz,_⟩:=zBF (T.hels _ (zAc ht))
 have hz':=T.hzeros _ (zAc hz)
 simp only [M,gA] at hz'
 obtain ⟨args⟩:=args
 obtain ⟨tys⟩:=tys
 simp only at h1 h2
 subst h1 h2
 obtain ⟨g0,gb⟩:=hp.inv.ok n _ Q
 have B:∀row∈(zPw xs i z0).map enc,row.length=size:=fun row hrow=>by
  obtain ⟨y,h,rfl⟩:=lE.1 hrow
  unfold zPw at h
  rcases cA.1 h with h | h
  ·exact g0 _ (dJ (gY h))
  ·rw [dS h,L];simpa using C
 have hcl:(zPw xs i z0).length=xs.length:=by simp [zPw];omega
 have W:=zTS (zAm hp.env hx)
 have fin:∀(w':World),(Builtin.clear_ #[t] o.type #[a.eval x]).run G.P w=.ok (.tuple #[]) w'->w'.heap.size=w.heap.size->(∀b,¬φ n b->w'.heap[b]? = w.heap[b]?)->w'.os=w.os->w'.tape=w.tape->w'.output=w.output ->
   (∀D',(∀b,Dof G.X φ w S b->D' b/\w'.heap[b]? = w.heap[b]?)->zCT σ w' D' (σ n) (φ n) (.arr e' size ((zPw xs i z0).map enc)))->o.wp G.P a w (wpList G.P all (kwp G r K) rest) (kwp G r K):=by
  intro w' hr2 q1 q2 q3 q4 q5 q6
  unfold Oper.wp
  rw [show (execOp a.eval o).run G.P w=.ok (.value (.tuple #[])) w' by simp [execOp,ho,resolve,invoke,builtin,hr2],Oper.upon_value,hd]
  exact k r hr _ _ ⟨σ,φ,hp.turn Q hS q1 q2 q3 q4 q5 q6⟩
 rcases gb with ⟨h3,⟨ao,h4⟩,h5⟩ | ⟨b,us,cap,h3,h3',h4,h5,h6,⟨fr,h7,h7',h7''⟩,h8⟩
 ·have hx0:xs=[]:=by simpa using h3
  subst hx0
  have hi0:i=0:=by simpa using p1
  subst hi0
  refine fin w ?_ rfl (fun _ _=>rfl) rfl rfl rfl fun D' hD=>⟨B,.inl ⟨by simp [zPw],⟨ao,h4⟩,h5⟩⟩
  rw [W,h4]
  cases ao<;>simp [zSM,Builtin.clear_,run_underlying I]
 ·rw [lL] at h3 h5
  have J:∀(H:List Value) (w':World) (D':Nat->Prop),(∀b,Dof G.X φ w S b->D' b/\w'.heap[b]? = w.heap[b]?)->H.length=us.length->w'.heap[b]? = some (.cells ⟨H⟩ (e' % zLI) fr) ->
    (∀j,H[j]? = if i*size<=j/\j<xs.length*size then (Builtin.zeroCells ⟨zs⟩ (xs.length - i)).toList[j - i*size]? else us[j]?)->zCT σ w' D' (σ n) (φ n) (.arr e' size ((zPw xs i z0).map enc)):=by
   intro H w' D' hD hul hw' hus
   refine ⟨B,.inr ⟨b,H,cap,by rw [lL,hcl];exact h3,h3',by rw [hul,h4],⟨by rw [lL,hcl];exact h5.1,h5.2⟩,h6,⟨fr,hw',by rw [hul];exact h7',h7''⟩,zUc B fun r q y c u hy hq hc s=>?_⟩⟩
   rw [zf2 p1] at hy
   rw [hus] at s
   by_cases h9:r<i
   ·rw [iP h9] at hy
    have:=lO size (show r+1<=i from h9)
    rw [cI] at this
    rw [iN (by omega)] at s
    exact (zLE g0 h8 hy hq hc s).mono hD
   ·rw [iN h9] at hy
    split at hy
    case isFalse=>cases hy
    rename_i hrl
    cases hy
    have e1:i*size<=r*size:=lO _ (by omega)
    have e2:=lO size (show r+1<=xs.length from hrl)
    rw [cI] at e2
    rw [iP (by omega)] at s
    have e3:(xs.length - i)*size=xs.length*size - i*size:=dF ..
    rw [zP9 zs _ _ (by rw [C,e3];omega),C] at s
    have e4:(r*size+q - i*size) % size=q:=by
     have:r*size+q - i*size=(r - i)*size+q:=by rw [dF];omega
     rw [this,Nat.mul_comm,Nat.mul_add_mod,Nat.mod_eq_of_lt hq]
    rw [e4] at s
    rw [L,lK,s] at hc
    cases hc
    have:=lR.1 hzf u (lU s)
    simp only [lM] at this
    exact .v this.1
  by_cases hlx:i=xs.length
  ·refine fin w ?_ rfl (fun _ _=>rfl) rfl rfl rfl fun D' hD=>J us w D' hD rfl h7 fun j=>by rw [iN (by rw [hlx];omega)]
   rw [W,h3,hlx]
   unfold zSM
   by_cases hce:cap=xs.length
   ·simp [hce,Builtin.clear_,run_underlying I]
   ·simp [hce,Builtin.clear_,run_underlying I]
  ·have hic:¬cap=i:=by omega
   have F:=zJD zs (xs.length - i)
   have e3:(xs.length - i)*size=xs.length*size - i*size:=dF ..
   have e5:i*size<=xs.length*size:=lO _ p1
   have e6:xs.length*size<=us.length:=by rw [h4];exact lO _ h5.1
   rw [C,e3] at F
   obtain ⟨w',cur',s1,s2,s3,s4,s5,s6,s7,s8,s9⟩:=zH7 (P:=G.P) b (i*size) (e' % zLI) fr (Builtin.zeroCells ⟨zs⟩ (xs.length - i)).toList 0 us w h7 h7' (by rw [F];omega) (fun v hv=>by
    obtain ⟨q,hq,rfl⟩:=gO.1 hv
    rw [F,<- e3] at hq
    have hqq:=zP9 zs (xs.length - i) q (by rw [C];exact hq)
    rw [lC (by rw [F,<- e3];exact hq)] at hqq
    have:=lR.1 hzf _ (lU hqq.symm)
    simp only [lM] at this
    exact this.2)
   refine fin w' ?_ s5 (fun c hc=>s6 c fun e=>hc ((h3' c).2 e)) s7 s8 s9 fun D' hD=>J cur' w' D' hD s3 s2 fun j=>?_
   ·rw [W,h3]
    obtain ⟨m1,hm1⟩:∃m1,xs.length - i=m1+1:=⟨xs.length - i - 1,by omega⟩
    rw [hm1] at s1
    simp [zSM,hic,zCZ,hm1,Builtin.clear_,run_underlying I,zeroValue,typeInfo,M,hz',hzc,s1]
   ·rw [s4 j,cH,F]
    by_cases hj:i*size<=j/\j<xs.length*size
    ·rw [iP (by omega),iP hj]
    ·rw [iN (by omega),iN hj]
theorem zZe (enc : α -> List PV) (xs:List α) {t n e size f:Nat} {E1:Env} {S1:zAC} (hv:lk E t=some (.vw n 0 f size)) (I:lkS S n=some (.arr e size (xs.map enc))) (hk:f<=xs.length) (hn:zEY G n=true) (hE:zFh n E=some E1) (hS:zEx n S=some S1)
  {a:Act} {w:World}:Pre G E S a w->Pre G ((t,.own n)::E1) ((n,.arr e size ((xs.take f).map enc))::S1) a w:=by
 rintro ⟨σ,φ,hp⟩
 have s:=zAl I
 obtain ⟨g0,gb⟩:=hp.inv.ok n _ s
 have h:∀W∈(xs.take f).map enc,W.length=size:=fun W hr=>by
  obtain ⟨y,hy,rfl⟩:=lE.1 hr
  exact g0 _ (dJ (gY hy))
 have M:(xs.take f).length=f:=by rw [cR];omega
 obtain ⟨u,hu,hru⟩:=hp.env t _ hv
 have Q:=zTS hru
 have fin:zKK (zSM (σ n) 0 f size)=true->(∀D',(∀b,Dof G.X φ w S b->D' b)->zCT (upd σ n (zSM (σ n) 0 f size)) w D' (zSM (σ n) 0 f size) (φ n) (.arr e size ((xs.take f).map enc)))->Pre G ((t,.own n)::E1) ((n,.arr e size ((xs.take f).map enc))::S1) a w:=by
  intro L J
  have C:=hp.lay (hdr:=zSM (σ n) 0 f size) (w':=w) (fp := φ n) (k:=.arr e size ((xs.take f).map enc)) hn hE hS (cB _) (fun b hf=>⟨(hp.inv.lt b ⟨n,_,s,hf⟩).1,.inr ⟨⟨_,s⟩,hf⟩⟩) (fun _ _ _=>rfl) rfl rfl rfl fun D' hD=>J D' fun b I=>(hD b I).1
  refine ⟨_,_,{ C with env:=fun t' p' F=>?_ }⟩
  simp only [lk] at F
  by_cases e1:t=t'
  ·subst e1
   simp at F
   subst F
   refine ⟨u,hu,?_⟩
   have:R (upd σ n (zSM (σ n) 0 f size)) w (Dof G.X (upd φ n (φ n)) w ((n,.arr e size ((xs.take f).map enc))::S1)) (.own n) (upd σ n (zSM (σ n) 0 f size) n):=.own (by rw [zAw];exact L)
   rw [zAw,<- Q] at this
   rw [Q] at this ⊢
   exact this
  ·simp only [zBa e1,cond_false] at F
   exact C.env t' p' F
 rcases gb with ⟨h3,⟨ao,h4⟩,h5⟩ | ⟨b,us,cap,h3,h3',h4,h5,h6,⟨fr,h7,h7',H⟩,h8⟩
 ·have hx0:xs=[]:=by simpa using h3
  subst hx0
  have hk0:f=0:=by simpa using hk
  subst hk0
  have B:zSM (σ n) 0 0 size=.slice ao 0 0:=by rw [h4,zMo]
  exact fin (by rw [B];rfl) fun D' hD=>⟨h,.inl ⟨rfl,⟨ao,B⟩,h5⟩⟩
 ·rw [lL] at h3 h5
  have B:zSM (σ n) 0 f size=.slice (some ⟨b,0,none⟩) f cap:=by rw [h3,zMo]
  refine fin (by rw [B];rfl) fun D' hD=>⟨h,.inr ⟨b,us,cap,by rw [lL,M];exact B,h3',h4,⟨by rw [lL,M];omega,h5.2⟩,h6,⟨fr,h7,h7',H⟩,zUc h fun r q y c u hy hq hc hu=>?_⟩⟩
  rw [lV] at hy
  split at hy
  case isFalse=>cases hy
  exact (zLE g0 h8 hy hq hc hu).mono fun b I=>⟨hD b I,rfl⟩
theorem zVq {f:Unit->Option ρ} {c:Code} (t:Nat) (enc : α -> List PV) (xs:List α) {n e size b:Nat} {E1:Env} {S1:zAC} (I:lk E t=some (.vw n 0 b size)) (B:lkS S n=some (.arr e size (xs.map enc))) (F:zEY G n=true) (h:zFh n E=some E1) (s:zEx n S=some S1)
  (k:PW G (f ()) c K ((t,.own n)::E1) ((n,.arr e size ((xs.take b).map enc))::S1)):PW G (bnd (zZl xs.length b) f) c K E S:=by
 intro r hr a w H
 unfold zZl at hr
 split at hr
 case isFalse=>cases hr
 rename_i C
 exact k r hr a w (zZe enc xs I B C F h s H)
end
end
end Go.Pw
