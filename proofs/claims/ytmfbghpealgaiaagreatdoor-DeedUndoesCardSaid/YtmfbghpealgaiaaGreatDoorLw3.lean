/- Plain laws on the models, one behind the other. -/
import Derived.Test.YtmfbghpealgaiaaGreatDoorLw2
/- What no operation changes; the law DeedKeeps of layer 18 (deed). -/
namespace Go.Proofs.YtmfbghpealgaiaaGreatDoor
open Go Go.Pw
open List renaming mem_map->lE,getElem?_eq_getElem->lC,length_nil->eK,countP_eq_zero->mB,filter_append->jK,getElem?_append_left->lN,append_assoc->eS,countP_append->jE,countP_cons->dG,mem_filter->iJ,getElem?_append_right->cC,drop_left->mC,mem_of_getElem?->lU,length_append->eR
open Nat renaming add_zero->cH
open Option renaming some->lJ
open Bool renaming not_true->iA,true_and->iD,and_false->jQ,and_eq_true->lM,false_eq_true->dL,eq_false_iff->iL
variable {n p many:Int} {v:World} {x:Node} {l:List Todo} {t:Todo} {ns:List Node}
section
structure Keep (w v:World):Prop where
 wr:WR v
 builds:v.Builds=w.Builds
 defs:v.Desk.Defs=w.Desk.Defs
 busy:v.Desk.Busy=w.Desk.Busy
 classes:v.Classes=w.Classes
 states:∀(i:Nat) (s:State),w.States[i]? = some s->∃s',v.States[i]? = some s'/\s'.Phase=s.Phase/\s'.Def=s.Def
 todos:∀(i:Nat) (a:List Todo),w.Line.Todos[i]? = some a->∃b,v.Line.Todos[i]? = some (a++b)
theorem Keep.enl {w:World} (h:Keep w v) {due:List Due} (c:∀u∈due,InN v.Forest.Nodes u.Node/\zIY v.Desk.Defs.length u.Todo=true):Keep w (zQf v due):=by
 refine ⟨h.wr.enl c,h.builds,h.defs,h.busy,h.classes,h.states,fun i a g=>?_⟩
 obtain ⟨b,m⟩:=h.todos i a g
 have e:=zP1 (l:=v.Line) (ts:=v.Tasks) i (fun u hu=>h.wr.inL (c u hu).1)
 rw [m] at e
 exact ⟨b++zJA due i,by rw [<- eS];exact e⟩
theorem Keep.refl {w:World} (h:WR w):Keep w w:=⟨h,rfl,rfl,rfl,rfl,fun _ s hs=>⟨s,hs,rfl,rfl⟩,fun _ a c=>⟨[],by rw [List.append_nil];exact c⟩⟩
theorem zX5 {g:Forest} {n:Nat} {d:Desk} {due:List Due} (h:zhg g n d due):∀u∈due,InN g.Nodes u.Node/\zIY d.Defs.length u.Todo=true:=fun u hu=>by
 obtain ⟨m,x,q,_,c,e,o⟩:=h.2 u hu
 refine ⟨?_,?_⟩
 ·unfold InN
  have:=(List.getElem?_eq_some_iff.1 c).1
  omega
 ·rw [o]
  unfold zIY zQp
  simp only [Bool.or_eq_true,lM]
  right
  exact ⟨rfl,zKB.2 (zPF.resolve_left e)⟩
end
section
theorem zV0 (T:TreeU ns) {j k:Int} (c:InN ns j) (h:k∈zGf ns j):zGm ns j=zGm ns k:=by
 unfold zGm;rw [T.root_same j c k h]
theorem zcN {a b:List Node} (hl:b.length=a.length) {j:Int} (h:InN a j):InN b j:=by unfold InN at h ⊢;rw [hl];exact h
section
variable {a b:List Node} {k:Int} (Ta:TreeU a) (Tb:TreeU b) (hl:b.length=a.length) (hu:∀j,InN a j->j≠k->upI b j=upI a j)
include Ta Tb hl hu
theorem zZf:∀j,InN a j->(k∈zGf b j↔k∈zGf a j):=Ta.up_ind fun j g m=>by
 have c:InN b j:=zcN hl g
 by_cases e:j=k
 ·subst e;exact ⟨fun _=>Ta.wayU_self g,fun _=>Tb.wayU_self c⟩
 ·rw [Tb.wayU_eq c,Ta.wayU_eq g,hu j g e,List.mem_cons,List.mem_cons]
  refine or_congr Iff.rfl ?_
  split
  ·exact Iff.rfl
  ·rename_i h;exact m h
theorem zfi:∀j,InN a j->k∉zGf a j->zai b j=zai a j:=Ta.up_ind fun j c q o=>by
 have m:InN b j:=zcN hl c
 have e:j≠k:=fun e=>o (e▸Ta.wayU_self c)
 rw [Tb.root_eq m,Ta.root_eq c,hu j c e]
 split
 ·rfl
 ·rename_i g
  exact q g fun h=>o (by rw [Ta.wayU_eq c,iN g];exact List.mem_cons_of_mem _ h)
theorem zdT (hs:∀n,isB b n 0=isB a n 0) {j:Int} (c:InN a j):zGm b j=if k∈zGf a j then zGm b k else zGm a j:=by
 by_cases h:k∈zGf a j
 ·rw [iP h];exact zV0 Tb (zcN hl c) ((zZf Ta Tb hl hu j c).2 h)
 ·rw [iN h];unfold zGm;rw [zfi Ta Tb hl hu j c h,hs]
end
def bI (b:Bool):Int:=if b then 1 else 0
def zR9 (l:List Note) (j k:Int):Int:=((l.countP fun x=>x.Node==j&&x.Kind==k:Nat):Int)
theorem zSA (l m:List Note) (j k:Int):zR9 (l++m) j k=zR9 l j k+zR9 m j k:=by unfold zR9;rw [jE];omega
theorem zYl {l:List Note} {j k:Int} (h:∀x∈l,x.Kind≠k):zR9 l j k=0:=by
 unfold zR9
 rw [mB.2 fun x hx=>by simp [h x hx]];rfl
theorem zbb {L:List Int} (m:L.Nodup) (x:Note) (j:Int):zR9 (L.map (zKE x)) j x.Kind=bI (decide (j∈L)):=by
 unfold zR9
 rw [List.countP_map,show ((fun y:Note=>y.Node==j&&y.Kind==x.Kind) ∘ zKE x)=fun c=>c==j by funext c;simp [zKE]]
 induction L with
 | nil=>rfl
 | cons c L o =>
  obtain ⟨g,h⟩:=List.nodup_cons.1 m
  have:=o h
  rw [dG]
  by_cases e:c=j
  ·subst e
   rw [decide_eq_false g] at this
   rw [decide_eq_true (List.mem_cons_self ..)]
   simp only [bI,dL,if_false,if_true,beq_self_eq_true] at this ⊢
   omega
  ·rw [show decide (j∈c::L)=decide (j∈L) by simp [Ne.symm e],<- this]
   simp [e]
theorem zYr {f:Forest} (hr:zAG f=true) {n j:Int} (g:InN f.Nodes n) (e:isB f.Nodes j 1=true):j∈zMO f.Nodes n↔n∈zGf f.Nodes j:=by
 have U:=zAQ hr
 have c:=zSU e
 unfold zMO
 rw [iJ]
 exact ⟨fun h=>(U.all_in n g j h.1).2,fun h=>⟨U.mem_all g j c h,e⟩⟩
theorem zSH {f:Forest} (hr:zAG f=true) {n:Int} (c:InN f.Nodes n):(zMO f.Nodes n).Nodup:=((zAQ hr).all_nodup n c).sublist List.filter_sublist
theorem zZd {f:Forest} (hr:zAG f=true) {n:Int} {z:Node} (hz:idx f.Nodes n=some z) (e:z.Kind=1\/z.Kind=2) (c:upI f.Nodes n = -1):zGm f.Nodes n=false:=by
 unfold zGm isB
 rw [(zAQ hr).root_top (zAI hz) c,hz]
 simp only [beq_eq_false_iff_ne]
 omega
theorem zgL {f:Forest} (hr:zAG f=true) {n:Int} {z:Node} (hz:idx f.Nodes n=some z) (o:z.Kind=1\/z.Kind=2) (c:zHa f.Nodes n = -1):upI f.Nodes n = -1:=by
 have e:z.Parent = -1:=by unfold zHa at c;rw [hz] at c;exact c
 have g:z.Host = -1:=by
  by_cases h:z.Host = -1
  ·exact h
  ·obtain ⟨_,_,_,_,_,m⟩:=zUo (zAb hr).2.2.1 hz h
   omega
 unfold upI
 rw [hz]
 simp only
 rw [iP e,g]
theorem zfo {f:Forest} (hr:zAG f=true) {n j:Int} (g:InN f.Nodes n) (o:isB f.Nodes j 1=true):zR9 (zGO f n) j 1=0/\zR9 (zGO f n) j 2=bI (decide (zHa f.Nodes n ≠ -1)&&zGm f.Nodes n&&decide (n∈zGf f.Nodes j)):=by
 unfold zGO
 by_cases h:zHa f.Nodes n ≠ -1/\zGm f.Nodes n=true
 ·rw [iP h]
  refine ⟨zYl fun x hx=>?_,?_⟩
  ·obtain ⟨c,_,rfl⟩:=lE.1 hx
   simp [zKE]
  ·have:=zbb (zSH hr g) ⟨2,0,0,0,[],false,false,[],[]⟩ j
   rw [this,h.2,decide_eq_true h.1,decide_eq_decide.2 (zYr hr g o)]
   rfl
 ·rw [iN h]
  refine ⟨rfl,?_⟩
  have:(decide (zHa f.Nodes n ≠ -1)&&zGm f.Nodes n)=false:=by
   by_cases e:zHa f.Nodes n ≠ -1
   ·rw [decide_eq_true e,iD]
    exact iL.2 fun m=>h ⟨e,m⟩
   ·rw [decide_eq_false e];rfl
  rw [this];rfl
theorem put_up {f:Forest} (hr:zAG f=true) {k p b:Int} {z y:Node} (P:Part f k p b z y) {j:Int} (m:InN f.Nodes j):upI (zJX f k p b) j=if j=k then p else upI f.Nodes j:=by
 obtain ⟨H,_⟩:=zOi hr P (fu:=1001) (by omega)
 obtain ⟨w,c⟩:=zAK m
 have g:=H.at_ j w c
 have o:=zAI P.hy
 unfold upI
 rw [g,c]
 by_cases e:j=k
 ·subst e
  rw [iP rfl]
  simp [zXn]
  intro h;omega
 ·rw [iN e]
  simp [zXn,e]
theorem zgn {f:Forest} (hr:zAG f=true) {k p b:Int} {z y:Node} (P:Part f k p b z y) {j:Int} (D:isB f.Nodes j 1=true):zR9 (zWh f k p b) j 1 - zR9 (zWh f k p b) j 2=bI (zGm (zJX f k p b) j) - bI (zGm f.Nodes j):=by
 have U:=zAQ hr
 have u:=zSU D
 have r:=zAI P.hz
 have C:=zIW hr P (fu:=1001) (by omega)
 have I:=zAQ C
 have hl:=zZP hr P (fu:=1001) (by omega)
 have hs:=zPa hr P
 obtain ⟨J,K⟩:=zfo hr r D
 have E:∀q,q=1\/q=2->zR9 (zOc f k (zMe f.Nodes p)) j q=0:=fun q Q=>zYl fun x hx=>by
  unfold zOc at hx
  split at hx
  ·cases hx
  ·obtain ⟨c,_,rfl⟩:=lE.1 hx
   simp only [zKE,zWT];omega
 have hu:∀j,InN f.Nodes j->j≠k->upI (zJX f k p b) j=upI f.Nodes j:=fun j D H=>by rw [put_up hr P D,iN H]
 have L:zGm (zJX f k p b) j=if k∈zGf f.Nodes j then zGm (zJX f k p b) k else zGm f.Nodes j:=zdT (k:=k) U I hl hu (fun m=>hs.isB) u
 have N:k∈zGf (zJX f k p b) j↔k∈zGf f.Nodes j:=zZf (k:=k) U I hl hu j u
 have g:InN (zJX f k p b) k:=hs.inN.2 r
 have G:isB (zJX f k p b) j 1=true:=by rw [hs.isB];exact D
 have o:zR9 (zUZ ⟨zJX f k p b,f.Most⟩ k) j 2=0/\zR9 (zUZ ⟨zJX f k p b,f.Most⟩ k) j 1=bI (zGm (zJX f k p b) k&&decide (k∈zGf f.Nodes j)):=by
  unfold zUZ
  simp only
  cases M:zGm (zJX f k p b) k with
  | false=>rw [iN (by simp)];exact ⟨rfl,rfl⟩
  | true =>
   rw [iP rfl]
   refine ⟨zYl fun x hx=>?_,?_⟩
   ·obtain ⟨c,_,rfl⟩:=lE.1 hx
    simp [zKE]
   ·have:=zbb (zSH (f:=⟨zJX f k p b,f.Most⟩) C g) ⟨1,0,0,0,[],false,false,[],[]⟩ j
    have e:decide (j∈zMO (zJX f k p b) k)=decide (k∈zGf f.Nodes j):=decide_eq_decide.2 ((zYr (f:=⟨zJX f k p b,f.Most⟩) C g G).trans N)
    rw [iD,<- e]
    exact this
 have F:(decide (zHa f.Nodes k ≠ -1)&&zGm f.Nodes k)=zGm f.Nodes k:=by
  by_cases h:zHa f.Nodes k = -1
  ·rw [zZd hr P.hz P.kind (zgL hr P.hz P.kind h),jQ]
  ·rw [decide_eq_true h,iD]
 unfold zWh
 rw [zSA,zSA,zSA,zSA,J,K,E 1 (.inl rfl),E 2 (.inr rfl),o.1,o.2,L,F]
 by_cases h:k∈zGf f.Nodes j
 ·rw [iP h,zV0 U u h,decide_eq_true h,Bool.and_true,Bool.and_true];omega
 ·rw [iN h,decide_eq_false h,jQ,jQ]
  simp [bI]
end
section
def zg6 (l:List Todo) (k:Int):Nat:=l.countP fun t=>t.Kind==k
theorem zba {k:Int} (h:∀t∈l,t.Kind≠k):zg6 l k=0:=mB.2 fun t c=>by simp [h t c]
theorem zbn (a b:List Due) (i:Nat):zJA (a++b) i=zJA a i++zJA b i:=by unfold zJA;rw [jK,List.map_append]
def dueH (f:Forest) (st:List State) (d:Desk) (cs:List Class) (x:Note):List Due:=match (if isB f.Nodes x.Node 1=true then (zeB f st d cs x).map (fun t=>(⟨x.Node,t⟩:Due)) else none) with | some u=>[u] | none=>[]
theorem zeY {f:Forest} {st:List State} {d:Desk} {cs:List Class} {x:Note} {l:List Note}:zQd f st d cs (x::l)=dueH f st d cs x++zQd f st d cs l:=by
 unfold zQd dueH
 rw [List.filterMap_cons]
 split
 ·rename_i e;rw [e];rfl
 ·rename_i e;rw [e];rfl
theorem zXh {u:Due} {i:Nat} (h:u.Node≠(i:Int)):zJA [u] i=[]:=by unfold zJA;simp [h]
theorem zbo {i:Nat}:zJA [(⟨(i:Int),t⟩:Due)] i=[t]:=by unfold zJA;simp
section
variable {f:Forest} {st:List State} {d:Desk} {cs:List Class} {i:Nat} {s:State} (hs:st[i]? = some s)
include hs
end
theorem zT4 {w:World} {f:Forest} {notes:List Note} (hR:WR w) (I:zAG f=true) (r:zG8 w f) (h:za4 w f notes v) (i:Nat) (hi:i<f.Nodes.length) :
  ∃E s D,(∀t∈E,t.Kind=5\/t.Kind=6)/\v.Line.Todos[i]? = some ((w.Line.Todos[i]?).getD []++(zJA (zQd f (st1 w f) w.Desk w.Classes notes) i++E))/\(st1 w f)[i]? = some s/\v.States[i]? = some D/\D.Phase=s.Phase/\D.Def=s.Def:=by
 have z:=zP5 hR I r
 have F:=zP1 (l:=(zhb w f).Line) (ts:=(zhb w f).Tasks) (due:=zQd f (st1 w f) w.Desk w.Classes notes) i (fun u hu=>z.inL (zXg notes u hu).1)
 obtain ⟨c,m,rfl,y,H,_⟩:=h
 have C:=zP6 (notes:=notes) hR I r y
 have G:=zP1 (l:=(zgI w f notes c).Line) (ts:=(zgI w f notes c).Tasks) (due:=m) i (fun u hu=>C.inL (zSU (H u hu).1))
 have K:(zhb w f).Line.Todos[i]? = some ((w.Line.Todos[i]?).getD []):=by
  show (w.Line.Todos++List.replicate (f.Nodes.length - w.Forest.Nodes.length) [])[i]? = _
  rcases Nat.lt_or_ge i w.Line.Todos.length with g | g
  ·rw [lN g,lC g];rfl
  ·rw [cC g,List.getElem?_eq_none g]
   have:=hR.td
   rw [List.getElem?_replicate,iP (by omega)];rfl
 rw [K] at F
 have q:(zgI w f notes c).Line.Todos[i]? = some ((w.Line.Todos[i]?).getD []++zJA (zQd f (st1 w f) w.Desk w.Classes notes) i):=F
 rw [q] at G
 have hl:=zOk hR r
 have o:i<c.length:=by rw [y.1,hl];exact hi
 obtain ⟨s,M,N⟩:=y.2 i _ (lC o)
 refine ⟨zJA m i,s,c[i],fun t J=>?_,by rw [<- eS];exact G,M,lC o,?_⟩
 ·unfold zJA at J
  obtain ⟨u,hu,rfl⟩:=lE.1 J
  exact (H u (iJ.1 hu).1).2
 ·rcases N with e | ⟨_,q,L,_⟩
  ·rw [e];exact ⟨rfl,rfl⟩
  ·exact ⟨q,L⟩
def Lv (w v:World) (i:Nat):Prop:=∃x s,v.Line.Todos[i]? = some ((w.Line.Todos[i]?).getD []++x)/\v.States[i]? = some s/\(s.Phase≠3->zg6 x 1=0/\zg6 x 2=0) /\
 (s.Phase=3->∀c,zJ8 s v.Desk.Defs v.Classes=some c->zLT c 1=true->zLT c 2=true->(zg6 x 1:Int) - (zg6 x 2:Int)=bI (zGm v.Forest.Nodes (i:Int)) - (if i<w.States.length then bI (zGm w.Forest.Nodes (i:Int)) else 0))
theorem Lv.same {w:World} {i:Nat} {x:List Todo} {s:State} (r:i<w.States.length) (m:v.Line.Todos[i]? = some ((w.Line.Todos[i]?).getD []++x)) (o:v.States[i]? = some s) (h:∀t∈x,3<=t.Kind) (q:v.Forest=w.Forest):Lv w v i:=by
 have e:zg6 x 1=0:=zba fun t c=>by have:=h t c;omega
 have g:zg6 x 2=0:=zba fun t c=>by have:=h t c;omega
 refine ⟨x,s,m,o,fun _=>⟨e,g⟩,fun _ _ _ _ _=>?_⟩
 rw [e,g,iP r,q];simp
end
section
theorem zTw {n:Nat}:∀(l:List Def) (i:Nat) (e:List (Int×Int)) (l4:List (Bs×Int)),(rdF n l i e l4).2=true->(∀x∈l4,zEP x.1=true)->∀x∈(rdF n l i e l4).1.names,zEP x.1=true
 | [],_,_,_,_,h=>h
 | y::t,i,e,l4,hk,h=>by
  simp only [rdF] at hk ⊢
  split at hk
  ·rename_i c
   rw [iP c]
   refine zTw t (i+1) _ _ hk fun x hx=>?_
   rcases zUy hx with hx | rfl
   ·exact h x hx
   ·unfold defB at c;simp only [lM] at c;exact c.1
  ·cases hk
theorem zR4 {d:Desk} (c:zMd d=true) {s:Bs} (h:zK7 (zHZ d).1.names s=true):zEP s=true :=
 zTw d.Defs 0 [] [] (zX7 (show opF _ _ _ _ _=true from c)).1 (by simp) _ (zRX (z:=0) h)
theorem zZ8:zEP []=false:=by decide +kernel
theorem zaF {d:Desk} (c:zMd d=true) {s:Bs} (hs:zEP s=false):zPH d s [] = -1:=by
 unfold zPH
 rw [iP c]
 by_cases e:zK7 (zHZ d).1.names s=true
 ·rw [zR4 c e] at hs;cases hs
 ·by_cases g:zK7 (zHZ d).1.names []=true
  ·have:=zR4 c g;rw [zZ8] at this;cases this
  ·rw [iN fun h=>e h.1,iN fun h=>g h.1]
section
variable {fu B:Nat} {w:World} (hfu:B+3000000<fu) (hB:B+3000000<=900000000) (hS:WS B w) (hR:WR w)
include hfu hB hS hR
theorem do_c {o:Op} (L:o.Kind≠17/\o.Kind≠18/\o.Kind≠23/\o.Kind≠24) (M:zSd o.Kind=true) (hs:o.S.length<=300):∃v n e,zFj fu w o=some (v,n,e) /\
  ((e≠0/\v=w/\n = -1/\(zZs o (-1) (w.Forest.Nodes.length:Int)=(o,0)->∃t g,zAk fu o ⟨w,-1⟩=some (t,g)/\(t.e≠0\/¬(zAG t.f=true/\zG8 w t.f)))) \/
   (e=0/\∃t g,zAk fu o ⟨w,-1⟩=some (t,g)/\t.e=0/\n=g.node/\zAG t.f=true/\zG8 w t.f/\∃q c,za4 w t.f t.notes q/\zhg t.f w.Forest.Nodes.length w.Desk c/\v=zQf q c)):=by
 obtain ⟨v,n,e,I,m⟩:=do_any hfu hB hS hR (o:=o) (Q:=fun e m=>∃t g,zAk fu o ⟨w,-1⟩=some (t,g)/\((e≠0/\(t.e≠0\/¬(zAG t.f=true/\zG8 w t.f)))\/(e=0/\t.e=0/\m.node=g.node/\zAG t.f=true/\zG8 w t.f/\∃q c,za4 w t.f t.notes q/\zhg t.f w.Forest.Nodes.length w.Desk c/\m.World=zQf q c)))
  (fun J=>let ⟨t,g,r,_,e,m,z,C⟩:=hdo_c hfu hB hS hR L J hs;⟨e,m,z,t,g,r,C⟩)
 refine ⟨v,n,e,I,?_⟩
 rcases m with ⟨u,N,P,T⟩ | ⟨u,_,_,m,⟨t,g,r,y⟩,rfl,rfl⟩
 ·refine .inl ⟨u,N,P,fun K=>?_⟩
  obtain ⟨_,t,g,r,y⟩:=T K M
  exact ⟨t,g,r,(y.resolve_right fun h=>u h.1).2⟩
 ·obtain ⟨_,z,C,D,E,q,c,F,G,H⟩:=y.resolve_left fun h=>h.1 rfl
  exact .inr ⟨u,t,g,r,z,C,D,E,q,c,F,G,H⟩
end
def zLQ (name c:Bs):Node:=⟨1,name.map zGc,c,[],[],-1,[],-1,-1,0⟩
theorem zhG {fu:Nat} {w:World} {k:Int} {name c:Bs} {t:zA5} {m:zAL} (hfu:2000<fu) (hr:zAG w.Forest=true) (F:name.length<=1000) (h:zAk fu ⟨2,0,0,0,name,c,false⟩ ⟨w,k⟩=some (t,m)) (u:t.e=0) :
  t.f=⟨w.Forest.Nodes++[zLQ name c],w.Forest.Most⟩/\t.notes=[]/\m.node=(w.Forest.Nodes.length:Int):=by
 have hs:=zAH hr
 have fin:(bnd (zDp fu name) fun C=>bnd (zDC fu w.Forest (⟨1,C,c,[],[],0,[],0,0,0⟩:Node)) fun o=>some ((⟨o.1,[],o.2.2⟩:zA5),(⟨w,o.2.1⟩:zAL)))=some (t,m)->t.f=⟨w.Forest.Nodes++[zLQ name c],w.Forest.Most⟩/\t.notes=[]/\m.node=(w.Forest.Nodes.length:Int):=fun h=>by
  rw [zPT (by omega) (by omega),zAA,zX2 (by omega) (hs.fit (by omega)) (by simp)] at h
  split at h
  ·split at h
   ·rw [zAA] at h
    cases h
    simp at u
   ·rw [zAA] at h
    cases h
    exact ⟨rfl,rfl,rfl⟩
  ·rw [zAA] at h
   cases h
   simp at u
 have g:∀e:Int,e≠0->some ((⟨(⟨[],0⟩:Forest),[],e⟩:zA5),(⟨w,k⟩:zAL))=some (t,m)->t.f=⟨w.Forest.Nodes++[zLQ name c],w.Forest.Most⟩/\t.notes=[]/\m.node=(w.Forest.Nodes.length:Int):=fun e z h=>by
  cases h
  exact absurd u z
 have q:InN w.Forest.Nodes 0:=by have:=(zAb hr).1;unfold InN;omega
 obtain ⟨y,hy⟩:=zAK q
 unfold zAk at h
 simp only at h
 rw [show ((2:Int)==2)=true from rfl,zAO] at h
 have h:zBt fu ⟨1,name,c,[],[],0,[],0,0,0⟩ ⟨w,k⟩=some (t,m):=by
  cases E:zBt fu ⟨1,name,c,[],[],0,[],0,0,0⟩ ⟨w,k⟩ with
  | none=>rw [E] at h;cases h
  | some r=>rw [E,zAA] at h;exact h
 unfold zBt at h
 simp only at h
 rw [hy,zAA,zAW,zSN (by omega),zAA,zHW (by omega),zAA,zAW,zAj,iP rfl] at h
 by_cases q:y.Kind=0
 ·rw [iP q] at h
  split at h
  ·cases hi:(c==([]:Bs)) with
   | true=>rw [hi] at h;exact fin h
   | false =>
    rw [hi,Bool.not_false,zAO] at h
    cases D:zEP c with
    | true=>rw [D] at h;exact fin h
    | false=>rw [D] at h;exact g 4 (by omega) h
  ·exact g 4 (by omega) h
 ·rw [iN q] at h;exact g 5 (by omega) h
theorem zhy {fu:Nat} {f:Forest} {b:Int} (hr:zAG f=true) (hfu:1000<fu) (hx:idx f.Nodes n=some x) (c:x.Kind≠3) (g:PI f p b (zAU n x)):(∃z y,Part f n p b z y)/\zCf fu n p b f.Most (zJE f.Nodes) []=some (zJE (zJX f n p b),[]++zWh f n p b):=by
 have e:zAU n x=[n]:=by unfold zAU;rw [iN c]
 rw [e] at g
 obtain ⟨z,y,P⟩:=g.part (List.mem_singleton.2 rfl)
 refine ⟨⟨z,y,P⟩,?_⟩
 obtain ⟨K,rfl⟩:∃K,fu=K+1+1:=⟨fu - 2,by omega⟩
 unfold zCf
 rw [zIi,zgM hr hfu hx,zAA,zGJ hx,zAA,zAj,iN c,e]
 unfold zDW
 have:=zWg hr P (fu:=K+1+1) (L:=[n]) (i:=0) (K:=K+1) (l:=[]) hfu (by simp) rfl (by simp) (by simp)
 rw [show ((0:Nat):Int)=0 from rfl] at this
 refine this.trans ?_
 simp only [zAy]
 rw [zAN (by simp)]
theorem ze3 {a b:List Node} (h:zJE a=zJE b):a=b:=by rw [<- zIi a,h,zIi]
theorem put_c {fu:Nat} {w:World} {k c:Int} {t:zA5} {H:zAL} (hfu:2000<fu) (hr:zAG w.Forest=true) (hx:idx w.Forest.Nodes n=some x) (N:x.Kind≠3) (h:zAk fu ⟨6,n,p,c,[],[],false⟩ ⟨w,k⟩=some (t,H)) (I:t.e=0) :
  ∃b z y,Part w.Forest n p b z y/\t.f=⟨zJX w.Forest n p b,w.Forest.Most⟩/\t.notes=zWh w.Forest n p b:=by
 have h:(bnd (zDD fu w.Forest n p c) fun u=>bnd (zAg fu u.1 u.2.1 u.2.2) fun F=>some (F,(⟨w,k⟩:zAL)))=some (t,H):=h
 obtain ⟨r,L,M⟩:=zWJ hr (by omega:1000<fu) n p c
 rw [L,zAA] at h
 unfold zAg at h
 rw [zAA] at h
 have D:=congrArg Prod.fst (lJ.inj h)
 simp only at D
 rcases M with ⟨e,E,rfl⟩ | ⟨m,V,b,g,l,_,S,C,Q,q,rfl⟩
 ·rw [<- D] at I;exact absurd I E
 ·rw [hx] at C
  obtain rfl:=lJ.inj C
  obtain ⟨⟨z,y,P⟩,T⟩:=zhy hr (by omega:1000<fu) hx N Q
  rw [T] at q
  have J:=lJ.inj q
  have G:=ze3 (congrArg Prod.fst J)
  have K:zWh w.Forest n p b=l:=by have:=congrArg Prod.snd J;simpa using this
  have o:=(S.all hr).2.1
  refine ⟨b,z,y,P,?_,?_⟩
  ·rw [<- D]
   cases g
   simp only at G o ⊢
   rw [G,o]
  ·rw [<- D,K]
theorem out_c {fu:Nat} {w:World} {k:Int} (hfu:2000<fu) (hr:zAG w.Forest=true) (hx:idx w.Forest.Nodes n=some x) (h:x.Parent ≠ -1):zAk fu ⟨7,n,0,0,[],[],false⟩ ⟨w,k⟩=some (⟨⟨zLj w.Forest.Nodes n,w.Forest.Most⟩,zGO w.Forest n,0⟩,⟨w,k⟩):=by
 have e:zAk fu ⟨7,n,0,0,[],[],false⟩ ⟨w,k⟩=(bnd (zDc fu w.Forest n) fun c=>bnd (zAg fu c.1 c.2.1 c.2.2) fun g=>some (g,(⟨w,k⟩:zAL))):=rfl
 rw [e,zMG hr (by omega:1000<fu),iP (show InN w.Forest.Nodes n from zAI hx),iN (by unfold zHa;rw [hx];exact h),zAA]
 rfl
end
section
section
variable {fu B:Nat} {w:World} (hfu:B+3000000<fu) (hB:B+3000000<=900000000) (hS:WS B w) (hR:WR w)
include hfu hB hS hR
end
theorem fit_in {k:Int} (e:many<=400) (c:0<=k/\k<many):zav 110 k=true:=by
 unfold zav
 rw [iN (by decide),iP rfl,zKB.2 (show 0<=k/\k<((400:Nat):Int) by omega)]
 simp
theorem aim_n {k:Int} (c:0<=k/\k<many):zVo 110 k (-1) many=some k:=by
 unfold zVo
 rw [iN (by simp),iN (show ¬k = -2 by omega),iN (show ¬k = -3 by omega),iN (by omega)]
theorem zgf {K x:Int} {s t:Bs} {d e:UInt8} (c:(zL9 K)=([110,46,46,d,e],true)) (g:many<=400) (hx:0<=x/\x<many) (hs:zb6 d s=true) (h:zb6 e t=true):zZs ⟨K,x,0,0,s,t,false⟩ (-1) many=(⟨K,x,0,0,s,t,false⟩,0)/\zMS ⟨K,x,0,0,s,t,false⟩=true:=by
 have hr:zMS ⟨K,x,0,0,s,t,false⟩=true:=by
  unfold zMS
  simp only [c]
  rw [fit_in g hx,hs,h]
  rfl
 refine ⟨?_,hr⟩
 unfold zZs
 rw [iP hr]
 simp only [c]
 rw [aim_n hx]
 rfl
end
section
theorem zhQ:zL9 7=([110,46,46,46,46],true)/\zL9 27=([110,46,46,46,46],true):=by decide
end
section
theorem zei {l:List Int} {i:Nat} (h:n∉l):(zVZ l i [n]).filter (fun c => !(([n]:List Int).contains c))=l:=by
 have g:∀m:List Int,(∀c∈m,c∈l)->m.filter (fun c => !(([n]:List Int).contains c))=m:=fun m o=>zQh fun e=>h (o n e)
 unfold zVZ
 rw [jK,jK,g _ fun c e=>List.mem_of_mem_take e,g _ fun c e=>List.mem_of_mem_drop e]
 simp
theorem zhh (T:TreeU ns) (hx:idx ns n=some x) (c:x.Kids=[]) (hu:x.Under = -1):zGl ns n=[n]:=by
 rw [T.all_eq (zAI hx),zOD hx,c,iP hu];rfl
theorem ziU {g:Forest} {b:Int} {z y:Node} (hr:zAG g=true) (P:Part g n p b z y) (Q:z.Kids=[]) (hu:z.Under = -1) (T:z.Parent = -1) {j:Int} {w:Node} (C:idx g.Nodes j=some w) (D:j≠n):idx (zLj (zJX g n p b) n) j=some w:=by
 have U:=zAQ hr
 obtain ⟨H,_⟩:=zOi hr P (fu:=1001) (by omega)
 have I:=zIW hr P (fu:=1001) (by omega)
 have E:=zAI P.hz
 have G:InN (zJX g n p b) n:=by unfold InN;rw [H.len];exact E
 have L:=zSh (f:=⟨zJX g n p b,g.Most⟩) I G
 -- nobody has it among its children
 have h:∀(i:Int) (v:Node),idx g.Nodes i=some v->n∉v.Kids:=fun i v K S=>by
  obtain ⟨q,J⟩:=zcE hr K S
  have e:=J.hz
  rw [P.hz] at e
  obtain rfl:=lJ.inj e
  have hi:=zAI K
  have:=J.par
  omega
 have M:=H.at_ j w C
 have N:=L.at_ j _ M
 rw [N]
 have u:=zhh U P.hz Q hu
 have m:(zQ8 [n] j (zXn g [n] p y.Doc (zWI (y.Kids.filter (fun c => !(([n]:List Int).contains c))) b n) [n] j w)).Kids=w.Kids:=by
  unfold zQ8 zXn
  simp only
  by_cases e:j=p
  ·rw [iP e]
   rw [e,P.hy] at C
   obtain rfl:=lJ.inj C
   have F:=h p y P.hy
   rw [zQh F]
   unfold zWI
   exact zei F
  ·rw [iN e,zQh (h j w C),zQh (h j w C)]
 have r:(zQ8 [n] j (zXn g [n] p y.Doc (zWI (y.Kids.filter (fun c => !(([n]:List Int).contains c))) b n) [n] j w)).Parent=w.Parent:=by
  unfold zQ8 zXn
  simp [D]
 have o:(zQ8 [n] j (zXn g [n] p y.Doc (zWI (y.Kids.filter (fun c => !(([n]:List Int).contains c))) b n) [n] j w)).Doc=w.Doc:=by
  unfold zQ8 zXn
  simp [u,D]
 congr 1
 cases w
 simp only [zQ8,zXn] at m r o ⊢
 simp only [m,r,o]
theorem zTc {a b:Todo}:zN8 a b=true↔a=b:=by
 unfold zN8
 cases a;cases b
 simp
def zUa (l:List Todo) (t:Todo):Nat:=l.countP fun x=>zN8 x t
theorem zYk (l m:List Todo) (t:Todo):zUa (l++m) t=zUa l t+zUa m t:=jE
theorem zbY (h:∀x∈l,x≠t):zUa l t=0:=mB.2 fun x hx=>by
 intro e;exact h x hx (zTc.1 e)
theorem zbX {i:Nat} (h:i<l.length):zUa (l.drop i) t=zUa (l.drop (i+1)) t+(if zN8 l[i] t=true then 1 else 0):=by
 rw [List.drop_eq_getElem_cons h]
 unfold zUa
 rw [dG]
theorem zV7 {f:Forest} {st:List State} {d:Desk} {cs:List Class} {i:Nat} {s:State} {y:Node} (hs:st[i]? = some s) (hy:f.Nodes[i]? = some y) (c:s.Phase=1) (o:y.Kind=1) (m:zIQ y d ≠ -1):∀l:List Note,((zUa (zJA (zQd f st d cs l) i) (zQp (zIQ y d)):Nat):Int)=zR9 l (i:Int) 1
 | []=>rfl
 | x::l=>by
  have C:=zV7 (cs:=cs) hs hy c o m l
  rw [zeY,zbn,zYk,show x::l=[x]++l from rfl,zSA,<- C]
  suffices h:((zUa (zJA (dueH f st d cs x) i) (zQp (zIQ y d)):Nat):Int)=zR9 [x] (i:Int) 1 by omega
  by_cases e:x.Node=(i:Int)
  ·have r:isB f.Nodes (i:Int) 1=true:=by unfold isB;rw [zFg,hy];simpa using o
   have z:dueH f st d cs x=if x.Kind=1 then [(⟨(i:Int),zQp (zIQ y d)⟩:Due)] else []:=by
    have q:zeB f st d cs x=if x.Kind=1/\zIQ y d ≠ -1 then some (zQp (zIQ y d)) else none:=by
     unfold zeB
     rw [e,zFg,hs,zFg,hy]
     simp only
     rw [iP c]
    unfold dueH
    rw [q,e,iP r]
    by_cases g:x.Kind=1
    ·rw [iP ⟨g,m⟩,iP g];rfl
    ·rw [iN fun h=>g h.1,iN g];rfl
   rw [z]
   by_cases g:x.Kind=1
   ·rw [iP g,zbo]
    have:zN8 (zQp (zIQ y d)) (zQp (zIQ y d))=true:=zTc.2 rfl
    simp [zUa,zR9,g,e,this]
   ·rw [iN g]
    simp [zUa,zR9,g,zJA]
  ·have hz:zR9 [x] (i:Int) 1=0:=by simp [zR9,e]
   rw [hz]
   unfold dueH
   split
   ·rename_i u hu
    split at hu
    ·obtain ⟨t,_,rfl⟩:=Option.map_eq_some_iff.1 hu
     rw [zXh e];rfl
    ·cases hu
   ·rfl
theorem ziW {u:World} {n:Nat} {b:List Todo} {q:Int} {e1 e2:Int} (o:u.Line.Todos[n]? = some b) (hl:b.length<=1000000000):∀(j i K m:Nat),i+j=b.length->j<K->m<=i ->
  zAp (v,(n:Int),e1) (u,e2,0) q K ((m:Int),(i:Int))=some (((m+zUa (b.drop i) (zQp q)==1)&&(q != -1))||((m+zUa (b.drop i) (zQp q)==0)&&(q == -1))):=by
 intro j
 induction j with
 | zero =>
  intro i K m hi z C
  obtain ⟨K,rfl⟩:∃c,K=c+1:=⟨K - 1,by omega⟩
  obtain rfl:i=b.length:=by omega
  simp only [zAp]
  rw [zFg,o,zAA,zAN (by simp),List.drop_length,show zUa [] (zQp q)=0 from rfl,cH,zAj,zAj]
  by_cases g:m=1
  ·subst g
   rw [iP (by omega),iN (by omega)]
   cases q != -1<;>simp
  ·rw [iN (by omega),show (m==1)=false by simpa using g]
   by_cases e:m=0
   ·subst e;simp
   ·rw [iN (by omega),show (m==0)=false by simpa using e];rfl
 | succ j r =>
  intro i K m hi z C
  obtain ⟨K,rfl⟩:∃c,K=c+1:=⟨K - 1,by omega⟩
  have h:i<b.length:=by omega
  simp only [zAp]
  rw [zFg,o,zAA,zAP (by simpa using h),zAA,zAT h,zAA,zAX (by omega),zAA,zAX (by omega),zbX h]
  simp only [zAA]
  have y:(⟨9,q,[],false,false,[],[],0,0,false⟩:Todo)=zQp q:=rfl
  rw [y]
  cases D:zN8 b[i] (zQp q) with
  | true =>
   rw [zAO,r (i+1) K (m+1) (by omega) (by omega) (by omega),iP rfl]
   rw [show m+1+zUa (b.drop (i+1)) (zQp q)=m+(zUa (b.drop (i+1)) (zQp q)+1) by omega]
  | false =>
   rw [zAD,r (i+1) K m (by omega) (by omega) (by omega),iN (by simp)]
   simp only [cH]
theorem ziV {fu:Nat} {w t:World} {g c:World×Int×Int} {e1 e2:Int} {n:Nat} (D:n=w.Forest.Nodes.length) (hfu:2000<fu) (hS:Small w.Forest) (u:g.2.1=(n:Int)) (C:∀(j:Nat),j<n->t.Forest.Nodes[j]? = w.Forest.Nodes[j]?) {fin:Option Bool}
  (h:(bnd (idx c.1.Forest.Nodes (n:Int)) fun e=>bnd (zIB fu c.1.Desk e.Name e.Is) fun m=>bnd (zCQ fu c.1.Forest (n:Int)) fun o=>cnd (!o) (some true) (cnd (e.Doc != 0) (some true) (bnd (idx g.1.Line.Todos (n:Int)) fun q=>(zAp g c m) fu (0,(q.length:Int)))))=fin) :
  zA1 fu w g c (t,e1,e2) fu 0=fin:=by
 have y:=hS.few
 refine zH3 (L:=zA1 fu w g c (t,e1,e2)) w.Forest.Nodes fin (fun i hi k=>?_) (fun k=>?_) (by omega)
 ·simp only [zA1]
  have r:=C i (by omega)
  rw [lC hi] at r
  have z:=List.getElem_mem hi
  rw [u,zAP (by simp;omega),zFg,r,zAA,zAT hi,zAA,zZE (by omega) (by have:=hS.attrs _ z;omega) (by have:=hS.kids _ z;omega),zAA,iA,zAD,zAX (by omega),zAA]
 ·simp only [zA1]
  rw [u,<- D,zAN (by simp)]
  exact h
theorem deedUndoes (w:World) (a:Int) (name D:Bs) (ha:0<=a/\a<=255):∃fu,zBj fu w a name D=some true:=by
 refine ⟨10000000000,?_⟩
 unfold zBj
 rw [zgl,zAA,iA,zAD]
 generalize hfu':(10000000000:Nat)=fu
 have hfu:1000000000<fu:=by omega
 obtain ⟨r,h1,h2⟩:=ziH hfu (w:=w)
 rw [h1,zAA]
 cases r with
 | false=>rfl
 | true =>
 obtain ⟨hS,hwt⟩:=h2 rfl
 rw [iA,zAD,zAS]
 by_cases hs:name.length<=300
 case neg=>rw [iP (by omega)]
 rw [iN (by omega),zAS]
 by_cases ht:D.length<=300
 case neg=>rw [iP (by omega)]
 rw [iN (by omega),zVn hS (by omega) (by omega),zAA]
 cases hw:zUA w with
 | false=>rfl
 | true =>
 have hR:=WR.iff.1 hw
 have hfew:=(zAH hR.fr).few
 have hpos:=(zAb hR.fr).1
 have hlen60:=hS.states
 rw [iA,zAD]
 obtain ⟨v,n,e,g1,g2⟩:=do_c (fu:=fu) (B:=60) (w:=w) (o:=⟨2,0,0,0,name,D,false⟩) (by omega) (by omega) hS hR ⟨by simp,by simp,by simp,by simp⟩ (by rfl) hs
 rw [g1,zAA]
 simp only
 rw [zAW]
 rcases g2 with ⟨q1,_,rfl,_⟩ | ⟨rfl,t1,h1',c1,c2,c3,c4,c5,v1,E,c6,c7,rfl⟩
 ·rw [iN q1];rfl
 rw [iP rfl]
 obtain ⟨f1,f2,f3⟩:=zhG (by omega) hR.fr (by omega) c1 c2
 rw [f3] at c3
 rw [f2] at c6
 subst c3
 -- the world behind the draft
 generalize T:w.Forest.Nodes.length=N at *
 have hN60:N<=60:=by have:=hR.st;omega
 have hv1:=zNZ hR c4 c5 c6
 have g:=c6.same
 have I:WR (zQf v1 E):=hv1.enl fun u hu=>by rw [g.1,g.2.1];exact zX5 c7 u hu
 have hVS:WS (60+2000) (zQf v1 E):=by
  have:=(zQL hS hR c4 c5 c6).enl (due:=E)
  have hd:=c7.1
  exact ⟨this.line.mono (by simp only [eK] at *;omega),by have:=this.tasks;simp only [eK] at *;omega,by have:=this.builds;simp only [eK] at *;omega,this.defs,this.waits,this.kids,by have:=this.states;simp only [eK] at *;omega⟩
 obtain ⟨d0,s0,s1,_,_,S,k4,k5,_⟩:=zT4 hR c4 c5 c6 N (by rw [f1];simp [T])
 have hvf:(zQf v1 E).Forest=⟨w.Forest.Nodes++[zLQ name D],w.Forest.Most⟩:=g.1.trans f1
 have hvs:(zQf v1 E).States[N]? = some s1:=k4
 have hvd:(zQf v1 E).Desk=w.Desk:=g.2.1
 have hph:s1.Phase=(zTC (zLQ name D)).Phase:=by
  rw [k5]
  unfold st1 at S
  rw [cC (by rw [hR.st];omega),hR.st,T,Nat.sub_self,f1] at S
  simp only [<- T,mC,List.map_cons,List.map_nil,List.getElem?_cons_zero,lJ.injEq] at S
  rw [<- S]
 generalize hv:zQf v1 E=v at *
 clear S k4 k5 c6 c7 c1 g1 hv1 g
 have F:idx v.Forest.Nodes (N:Int)=some (zLQ name D):=by rw [hvf,zFg,<- T];simp
 have hvN:v.Forest.Nodes.length=N+1:=by rw [hvf];simp [T]
 -- it is put
 rw [zKG (by simp only [lo,Go.Pw.hi];omega),zAA]
 obtain ⟨p,p1,p2,p3⟩:=rem_ok (a:=a) (n:=w.States.length) ha.1 (by rw [hR.st,T];omega)
 rw [p1,zAA]
 have hpN:p<(N:Int):=by rw [hR.st,T] at p3;exact p3
 obtain ⟨u,m,e,g1,g2⟩:=do_c (fu:=fu) (B:=60+2000) (w:=v) (o:=⟨6,(N:Int),p,-1,[],[],false⟩) (by omega) (by omega) hVS I ⟨by simp,by simp,by simp,by simp⟩ (by rfl) (by simp)
 rw [g1,zAA]
 simp only
 rw [zAW]
 rcases g2 with ⟨q1,rfl,_,_⟩ | ⟨rfl,G,h2',c1,c2',_,d4,d5,v2,J,d6,d7,hu⟩
 ·rw [iN q1,zat hfu hVS (by omega) I,zAA]
 rw [iP rfl]
 obtain ⟨b,z,y,P,e1,e2⟩:=put_c (by omega) I.fr F (by simp [zLQ]) c1 c2'
 have hz:z=zLQ name D:=by have:=P.hz;rw [F] at this;exact (lJ.inj this).symm
 have hv2:=zNZ I d4 d5 d6
 have C:=d6.same
 have W:WR u:=by rw [hu];exact hv2.enl fun x hx=>by rw [C.1,C.2.1];exact zX5 d7 x hx
 have hnl:G.notes.length<=1200:=by rw [e2];exact zVG I.fr P (fu:=1001) (by omega)
 have X:WS (60+6000) u:=by
  rw [hu]
  have:=(zQL hVS I d4 d5 d6).enl (due:=J)
  have hd:=d7.1
  exact ⟨this.line.mono (by omega),by have:=this.tasks;omega,by have:=this.builds;omega,this.defs,this.waits,this.kids,by have:=this.states;omega⟩
 have huf:u.Forest=⟨zJX v.Forest (N:Int) p b,v.Forest.Most⟩:=by rw [hu];exact C.1.trans e1
 have hud:u.Desk=v.Desk:=by rw [hu];exact C.2.1
 have hsn:=zPa I.fr P
 obtain ⟨x,hx,x1,x2,x3,_⟩:=hsn.2 _ _ F
 have hxu:idx u.Forest.Nodes (N:Int)=some x:=by rw [huf];exact hx
 have huN:u.Forest.Nodes.length=N+1:=by rw [huf];exact (hsn.1).trans hvN
 have hxp:x.Parent=p:=by
  obtain ⟨H,_⟩:=zOi I.fr P (fu:=1001) (by omega)
  have:=H.at_ _ _ F
  rw [hx] at this
  rw [lJ.inj this]
  simp [zXn]
 -- it goes out again
 obtain ⟨t,m3,e,g3,g4⟩:=do_c (fu:=fu) (B:=60+6000) (w:=u) (o:=⟨7,(N:Int),0,0,[],[],false⟩) (by omega) (by omega) X W ⟨by simp,by simp,by simp,by simp⟩ (by rfl) (by simp)
 have V:InN u.Forest.Nodes (N:Int):=zAI hxu
 have hout:=out_c (fu:=fu) (k := -1) (by omega) W.fr hxu (by rw [hxp];omega)
 rw [g3,zAA]
 simp only
 rw [zAW]
 rcases g4 with ⟨q1,_,_,q4⟩ | ⟨rfl,t3,h3',c1,_,_,d4',d5',v3,due3,d6',d7',htt⟩
 ·exfalso
  obtain ⟨t3,h3',k1,k2⟩:=q4 (zgf zhQ.1 (by omega) V (by rfl) (by rfl)).1
  rw [hout] at k1
  have e:=lJ.inj k1
  have e3:=(congrArg Prod.fst e).symm
  simp only at e3
  rcases k2 with h | h
  ·rw [e3] at h;exact h rfl
  ·have hs3:=zSi W.fr V
   rw [e3] at h
   refine h ⟨zLb W.fr V,rfl,by simp only;rw [hs3.1];omega,fun i x hx=>?_⟩
   obtain ⟨y',g1,g2,_⟩:=hs3.2 (i:Int) x (by rw [zFg];exact hx)
   exact ⟨y',by rw [zFg] at g1;exact g1,g2⟩
 rw [iP rfl]
 rw [hout] at c1
 have e3:=(congrArg Prod.fst (lJ.inj c1)).symm
 simp only at e3
 have hv3:=zNZ W d4' d5' d6'
 have K:=d6'.same
 have htf:t.Forest=⟨zLj u.Forest.Nodes (N:Int),u.Forest.Most⟩:=by rw [htt];exact K.1.trans (by rw [e3])
 have hts:t.States.length=N+1:=by
  rw [htt]
  show v3.States.length=_
  rw [hv3.st,K.1,e3]
  simp only
  rw [zRY,huN]
 rw [hR.st,T,zAW,iP rfl,zAX (by omega),zAA,hts,zAW,iP rfl]
 refine ziV (n:=N) T.symm (by omega) (zAH hR.fr) rfl (fun j hj=>?_) ?_
 ·-- the old ones
  have hjw:=lC (show j<w.Forest.Nodes.length by omega)
  have hjv:idx v.Forest.Nodes (j:Int)=some w.Forest.Nodes[j]:=by rw [hvf,zFg];rw [lN (by omega)];exact hjw
  have:=ziU I.fr P (by rw [hz];rfl) (by rw [hz];rfl) (by rw [hz];rfl) hjv (by omega)
  rw [htf,hjw]
  rw [zFg] at this
  rw [huf]
  exact this
 ·simp only
  rw [hxu,zAA,zgD (by omega) X.defs X.waits,zAA,zUF (zAH W.fr) (by omega) W.fr V,zAA]
  cases hcn:zGm u.Forest.Nodes (N:Int) with
  | false=>rfl
  | true =>
  rw [iA,zAD,zAW]
  by_cases M:x.Doc=0
  case neg=>rw [iN M]
  rw [iP M]
  have hvt:N<v.Line.Todos.length:=by rw [I.td,hvN];omega
  obtain ⟨d2,s,s',k1,k2,S,_,_,_⟩:=zT4 I d4 d5 d6 N (by rw [e1];show N<(zJX v.Forest (N:Int) p b).length;rw [hsn.1,hvN];omega)
  rw [zAT hvt,zAA]
  have hdue2:zJA J N=[]:=by
   unfold zJA
   rw [List.filter_eq_nil_iff.2 fun q L=>?_];rfl
   obtain ⟨i,_,h1,h2,_⟩:=d7.2 q L
   rw [h1];simp;omega
  have hgd:(v.Line.Todos[N]?).getD []=v.Line.Todos[N]:=by rw [lC hvt];rfl
  have hut:u.Line.Todos[N]? = some (v.Line.Todos[N]++(zJA (zQd G.f (st1 v G.f) v.Desk v.Classes G.notes) N++d2)):=by
   have e:=zP1 (l:=v2.Line) (ts:=v2.Tasks) (due:=J) N (fun q L=>hv2.inL (by rw [C.1];exact (zX5 d7 q L).1))
   rw [k2,hgd] at e
   rw [hu]
   show (zTF v2.Line v2.Tasks J).1.Todos[N]? = _
   rw [e,hdue2];simp
  have hul:=X.line.todo _ (lU hut)
  have hfin:=ziW (v:=v) (u:=u) (n:=N) (q:=zPH u.Desk x.Name x.Is) (e1:=0) (e2:=m) hut (by omega) (zJA (zQd G.f (st1 v G.f) v.Desk v.Classes G.notes) N++d2).length v.Line.Todos[N].length fu 0 (by simp) (by simp only [eR] at hul;simp only [eR];omega) (by omega)
  rw [mC,Nat.zero_add,zYk] at hfin
  refine hfin.trans ?_
  have hd2:∀q,zUa d2 (zQp q)=0:=fun q=>zbY fun t ht e=>by have:=k1 t ht;rw [e] at this;simp [zQp] at this
  rw [hd2,cH]
  by_cases L:zPH u.Desk x.Name x.Is = -1
  ·have:zUa (zJA (zQd G.f (st1 v G.f) v.Desk v.Classes G.notes) N) (zQp (zPH u.Desk x.Name x.Is))=0:=zbY fun t ht e=>by
    have hm:=W.todo _ (lU hut) t (List.mem_append_right _ (List.mem_append_left _ ht))
    rw [e,L] at hm
    simp [zIY,zQp,ltI] at hm
   rw [this,L];rfl
  ·have Q:zIQ x v.Desk=zPH u.Desk x.Name x.Is:=by
    unfold zIQ
    rw [iP (by rw [x1];rfl),iP M,hud]
   have hx2:G.f.Nodes[N]? = some x:=by rw [e1];rw [zFg] at hx;exact hx
   have hs:s=s1:=by
    unfold st1 at S
    rw [lN (by rw [I.st,hvN];omega),hvs] at S
    exact (lJ.inj S).symm
   have hph1:s.Phase=1:=by
    rw [hs,hph]
    unfold zTC
    simp only
    rw [iP (show (zLQ name D).Kind=1 from rfl)]
    by_cases hi:D=[]
    ·rw [iP (show (zLQ name D).Is=[] from hi)]
     by_cases hc:zEP (zLQ name D).Name=true
     ·rw [iP hc]
     ·exfalso
      refine L ?_
      rw [x2,x3]
      have hi':(zLQ name D).Is=[]:=hi
      rw [hi']
      exact zaF W.dk (iL.2 hc)
    ·rw [iN (show ¬(zLQ name D).Is=[] from hi)]
   have hcnt:=zV7 (cs:=v.Classes) S hx2 hph1 (by rw [x1];rfl) (by rw [Q];exact L) G.notes
   rw [Q] at hcnt
   have hzp:zHa v.Forest.Nodes (N:Int) = -1:=by unfold zHa;rw [F];rfl
   have hcame:zR9 G.notes (N:Int) 1=1:=by
    have hel:isB v.Forest.Nodes (N:Int) 1=true:=by unfold isB;rw [F];rfl
    have hb:=zgn I.fr P hel
    have hc0:zGm v.Forest.Nodes (N:Int)=false:=zZd I.fr F (.inl rfl) (zgL I.fr F (.inl rfl) hzp)
    have hc1:zGm (zJX v.Forest (N:Int) p b) (N:Int)=true:=by rw [huf] at hcn;exact hcn
    have h2:zR9 (zWh v.Forest (N:Int) p b) (N:Int) 2=0:=by
     unfold zWh zGO
     rw [iN fun h=>h.1 hzp]
     refine zYl fun q L=>?_
     rw [List.nil_append] at L
     rcases List.mem_append.1 L with h | h
     ·unfold zOc at h
      split at h
      all_goals first | (cases h;done) | (obtain ⟨c,_,rfl⟩:=lE.1 h;simp [zKE,zWT])
     ·unfold zUZ at h
      split at h
      all_goals first | (cases h;done) | (obtain ⟨c,_,rfl⟩:=lE.1 h;simp [zKE])
    rw [hc0,hc1,h2] at hb
    rw [e2]
    simp only [bI,if_true,dL,if_false] at hb
    omega
   have h1:zUa (zJA (zQd G.f (st1 v G.f) v.Desk v.Classes G.notes) N) (zQp (zPH u.Desk x.Name x.Is))=1:=by omega
   rw [h1]
   simp [L]
end
end Go.Proofs.YtmfbghpealgaiaaGreatDoor
