/- Plain laws on the models, one behind the other. -/
import Derived.Test.YtmfbghpealgaiaaGreatDoorLw2
/- What no operation changes; the law DeedKeeps of layer 18 (deed). -/
namespace Go.Proofs.YtmfbghpealgaiaaGreatDoor
open Go Go.Pw
open List renaming getElem?_eq_getElem->lC,mem_map->lE,getElem?_eq_some_iff->lF,mem_filter->iH,getElem?_append_left->lN,length_append->eR,append_assoc->eS,append_nil->gI,mem_singleton->e8,replicate->dH,length_cons->cP,length_nil->eK,countP_append->jE,countP_eq_zero->k9,countP_cons->dG,getElem?_append_right->cC,getElem?_eq_none->cX,countP_le_length->jA
open Option renaming map_eq_some_iff->lI
open Bool renaming not_true->iA,and_eq_true->lM,or_eq_true->dD,true_and->iB,and_false->jP,and_true->kM,not_false->jK,false_eq_true->dL
variable {w v:World} {n:Int} {l notes:List Note} {g:Forest} {o:Op}
section
structure Keep (w v:World):Prop where
 wr:WR v
 builds:v.Builds=w.Builds
 defs:v.Desk.Defs=w.Desk.Defs
 busy:v.Desk.Busy=w.Desk.Busy
 classes:v.Classes=w.Classes
 states:∀(i:Nat) (s:State),w.States[i]? = some s->∃s',v.States[i]? = some s'/\s'.Phase=s.Phase/\s'.Def=s.Def
 todos:∀(i:Nat) (a:List Todo),w.Line.Todos[i]? = some a->∃b,v.Line.Todos[i]? = some (a++b)
theorem Keep.enl (h:Keep w v) {due:List Due} (c:∀u∈due,InN v.Forest.Nodes u.Node/\zH8 v.Desk.Defs.length u.Todo=true):Keep w (zT2 v due):=by
 refine ⟨h.wr.enl c,h.builds,h.defs,h.busy,h.classes,h.states,fun i a m=>?_⟩
 obtain ⟨b,p⟩:=h.todos i a m
 have e:=zN0 (l:=v.Line) (ts:=v.Tasks) i (fun u hu=>h.wr.inL (c u hu).1)
 rw [p] at e
 exact ⟨b++zGv due i,by rw [<- eS];exact e⟩
theorem Keep.refl (h:WR w):Keep w w:=⟨h,rfl,rfl,rfl,rfl,fun _ s hs=>⟨s,hs,rfl,rfl⟩,fun _ a c=>⟨[],by rw [gI];exact c⟩⟩
theorem zbH {f:Forest} (h:WR w) (m:zAF f=true) (e:zHF w f):Keep w (zfH w f):=by
 refine ⟨zM1 h m e,rfl,rfl,rfl,rfl,fun i s hs=>⟨s,?_,rfl,rfl⟩,fun i a c=>⟨[],?_⟩⟩
 ·show (w.States++(f.Nodes.drop w.Forest.Nodes.length).map zRK)[i]? = some s
  rw [lN (lF.1 hs).1];exact hs
 ·rw [gI]
  show (w.Line.Todos++dH (f.Nodes.length - w.Forest.Nodes.length) [])[i]? = some a
  rw [lN (lF.1 c).1];exact c
theorem zbI {f:Forest} (B:WR w) (C:zAF f=true) (z:zHF w f) (h:zZ8 w f notes v):Keep w v:=by
 have D:Keep w (zUq w f notes):=(zbH B C z).enl (due:=zPQ f (st1 w f) w.Desk w.Classes notes) (zT0 notes)
 obtain ⟨c,q,rfl,p,I,_⟩:=h
 have J:Keep w (zdv w f notes c):=by
  refine ⟨zM2 B C z p,rfl,rfl,rfl,rfl,fun i s hs=>?_,D.todos⟩
  obtain ⟨K,t,x,y⟩:=D.states i s hs
  have hi:i<c.length:=by
   rw [p.1];exact (lF.1 t).1
  obtain ⟨M,r,E⟩:=p.2 i _ (lC hi)
  have m:(st1 w f)[i]? = some K:=t
  rw [m] at r
  obtain rfl:=Option.some.inj r
  refine ⟨c[i],lC hi,?_⟩
  rcases E with e | ⟨_,F,G,_⟩
  ·rw [e];exact ⟨x,y⟩
  ·exact ⟨F.trans x,G.trans y⟩
 refine J.enl fun u hu=>?_
 obtain ⟨H,L⟩:=I u hu
 refine ⟨zK2 H,?_⟩
 unfold zH8
 simp only [dD,lM,decide_eq_true_eq]
 left;omega
theorem zbe {n:Nat} {d:Desk} {due:List Due} (h:newD g n d due):∀u∈due,InN g.Nodes u.Node/\zH8 d.Defs.length u.Todo=true:=fun u hu=>by
 obtain ⟨m,x,q,_,c,e,p⟩:=h.2 u hu
 refine ⟨?_,?_⟩
 ·unfold InN
  have:=(lF.1 c).1
  omega
 ·rw [p]
  unfold zH8 zfS
  simp only [dD,lM]
  right
  exact ⟨rfl,zJj.2 (zOh.resolve_left e)⟩
theorem zbG (c:WR w) (h:zZ1 w o v n):Keep w v:=by
 rcases h with ⟨_,h⟩ | ⟨_,h⟩ | ⟨_,h⟩
 ·obtain ⟨B,_,rfl⟩:=h
  obtain ⟨_,C,_,m,D,_,E,F,G⟩:=zRI B
  refine ⟨⟨c.st,c.td,?_,c.fr,C,c.ln,fun i s x hs hx=>?_,fun l hl t e=>?_,fun t e=>?_,fun b K=>?_⟩,rfl,m,D,rfl,fun _ s hs=>⟨s,hs,rfl,rfl⟩,fun _ a J=>⟨[],by rw [gI];exact J⟩⟩
  ·have:=c.cl
   unfold zLi at this ⊢
   simp only [m]
   exact this
  ·simp only [m];exact c.per i s x hs hx
  ·simp only [m];exact c.todo l hl t e
  ·simp only [m] at e ⊢
   have old:t∈w.Tasks->zSe w.Desk.Defs.length t=true:=c.task t
   split at e
   ·exact old e
   ·rename_i q
    rcases List.mem_append.1 e with e | e
    ·exact old e
    ·rw [e8.1 e]
     rcases G with p | p
     ·exact absurd p.1 q
     ·unfold zSe
      simp only [dD,lM,decide_eq_true_eq]
      right
      exact ⟨rfl,by rw [E];exact F,zJj.2 ⟨p.1,p.2.1⟩⟩
  ·simp only [m];exact c.build b K
 ·obtain ⟨due,rfl,_,y,_⟩:=h
  exact (Keep.refl c).enl fun u hu=>⟨(y u hu).1,(y u hu).2.1⟩
 ·obtain ⟨g,l,M,r,_,L,H,z,I,rfl⟩:=h
  have hs:=z.same
  refine (zbI c L H z).enl fun u hu=>?_
  rw [hs.1,hs.2.1]
  exact zbe I u hu
theorem zZj {B:Nat} (c:WS B w) (y:WR w) (F:w.Desk.Waits.length<=899) (h:zZ1 w o v n):WS (B+2100000) v:=by
 rcases h with ⟨_,h⟩ | ⟨_,h⟩ | ⟨_,h⟩
 ·obtain ⟨p,_,rfl⟩:=h
  obtain ⟨_,_,_,q,_,_,_,_,r⟩:=zRI p
  refine ⟨c.line.mono (by omega),?_,by have:=c.builds;simp only;omega,by simp only [q];exact c.defs,?_,c.kids,by have:=c.states;simp only;omega⟩
  ·have:=c.tasks
   simp only
   split
   ·omega
   ·simp only [eR,cP,eK];omega
  ·simp only
   rcases r with m | m
   ·rw [m.2];simp only [eR,cP,eK];omega
   ·rw [m.2.2];omega
 ·obtain ⟨due,rfl,D,_,_⟩:=h
  have:=c.enl (due:=due)
  exact ⟨this.line.mono (by omega),by have:=this.tasks;omega,by have:=this.builds;omega,this.defs,this.waits,this.kids,by have:=this.states;omega⟩
 ·obtain ⟨g,l,G,e,t,C,u,z,x,rfl⟩:=h
  have hl:=t.len
  have E:=x.1
  have:=(zTP c y C u z).enl (due:=e)
  exact ⟨this.line.mono (by omega),by have:=this.tasks;omega,by have:=this.builds;omega,this.defs,this.waits,this.kids,by have:=this.states;omega⟩
end
section
theorem zRR {ns:List Node} (T:TreeU ns) {j k:Int} (c:InN ns j) (h:k∈zGL ns j):zEi ns j=zEi ns k:=by
 unfold zEi;rw [T.root_same j c k h]
theorem zXy {a b:List Node} (Ta:TreeU a) (Tb:TreeU b) (h:Ext a b) {j:Int} (c:InN a j):zEi b j=zEi a j:=by
 have r:∀j,InN a j->zXW b j=zXW a j:=Ta.up_ind fun j c t=>by
  obtain ⟨x,hx⟩:=zAJ c
  obtain ⟨v,e,_,q⟩:=h.2 j x hx
  rw [Tb.root_eq (zAK e),Ta.root_eq c,q]
  split
  ·rfl
  ·rename_i m;exact t m
 obtain ⟨x,hx⟩:=zAJ (Ta.root_in c)
 obtain ⟨v,e,p,_⟩:=h.2 _ x hx
 unfold zEi isB
 rw [r j c,hx,e];simp only [p]
theorem zbM {a b:List Node} (hl:b.length=a.length) {j:Int} (h:InN a j):InN b j:=by unfold InN at h ⊢;rw [hl];exact h
section
variable {a b:List Node} {k:Int} (Ta:TreeU a) (Tb:TreeU b) (hl:b.length=a.length) (hu:∀j,InN a j->j≠k->upI b j=upI a j)
include Ta Tb hl hu
theorem zYo:∀j,InN a j->(k∈zGL b j↔k∈zGL a j):=Ta.up_ind fun j h p=>by
 have c:InN b j:=zbM hl h
 by_cases e:j=k
 ·subst e;exact ⟨fun _=>Ta.wayU_self h,fun _=>Tb.wayU_self c⟩
 ·rw [Tb.wayU_eq c,Ta.wayU_eq h,hu j h e,List.mem_cons,List.mem_cons]
  refine or_congr Iff.rfl ?_
  split
  ·exact Iff.rfl
  ·rename_i m;exact p m
theorem zek:∀j,InN a j->k∉zGL a j->zXW b j=zXW a j:=Ta.up_ind fun j c r q=>by
 have p:InN b j:=zbM hl c
 have e:j≠k:=fun e=>q (e▸Ta.wayU_self c)
 rw [Tb.root_eq p,Ta.root_eq c,hu j c e]
 split
 ·rfl
 ·rename_i m
  exact r m fun h=>q (by rw [Ta.wayU_eq c,iN m];exact List.mem_cons_of_mem _ h)
theorem zWA (hs:∀n,isB b n 0=isB a n 0) {j:Int} (c:InN a j):zEi b j=if k∈zGL a j then zEi b k else zEi a j:=by
 by_cases h:k∈zGL a j
 ·rw [iP h];exact zRR Tb (zbM hl c) ((zYo Ta Tb hl hu j c).2 h)
 ·rw [iN h];unfold zEi;rw [zek Ta Tb hl hu j c h,hs]
end
def bI (b:Bool):Int:=if b then 1 else 0
def zO6 (l:List Note) (j k:Int):Int:=((l.countP fun x=>x.Node==j&&x.Kind==k:Nat):Int)
theorem zJg (l m:List Note) (j k:Int):zO6 (l++m) j k=zO6 l j k+zO6 m j k:=by unfold zO6;rw [jE];omega
theorem zSo {j k:Int} (h:∀x∈l,x.Kind≠k):zO6 l j k=0:=by
 unfold zO6
 rw [k9.2 fun x hx=>by simp [h x hx]];rfl
theorem zac {L:List Int} (p:L.Nodup) (x:Note) (j:Int):zO6 (L.map (zK8 x)) j x.Kind=bI (decide (j∈L)):=by
 unfold zO6
 rw [List.countP_map,show ((fun y:Note=>y.Node==j&&y.Kind==x.Kind) ∘ zK8 x)=fun c=>c==j by funext c;simp [zK8]]
 induction L with
 | nil=>rfl
 | cons c L q =>
  obtain ⟨h,m⟩:=List.nodup_cons.1 p
  have:=q m
  rw [dG]
  by_cases e:c=j
  ·subst e
   rw [decide_eq_false h] at this
   rw [decide_eq_true (List.mem_cons_self ..)]
   simp only [bI,dL,if_false,if_true,beq_self_eq_true] at this ⊢
   omega
  ·rw [show decide (j∈c::L)=decide (j∈L) by simp [Ne.symm e],<- this]
   simp [e]
theorem zXu {f:Forest} (hr:zAF f=true) {n j:Int} (m:InN f.Nodes n) (e:isB f.Nodes j 1=true):j∈zL0 f.Nodes n↔n∈zGL f.Nodes j:=by
 have U:=zAL hr
 have c:=zK2 e
 unfold zL0
 rw [iH]
 exact ⟨fun h=>(U.all_in n m j h.1).2,fun h=>⟨U.mem_all m j c h,e⟩⟩
theorem zRY {f:Forest} (hr:zAF f=true) {n:Int} (c:InN f.Nodes n):(zL0 f.Nodes n).Nodup:=((zAL hr).all_nodup n c).sublist List.filter_sublist
theorem zYm {f:Forest} (hr:zAF f=true) {n:Int} {z:Node} (hz:idx f.Nodes n=some z) (e:z.Kind=1\/z.Kind=2) (c:upI f.Nodes n = -1):zEi f.Nodes n=false:=by
 unfold zEi isB
 rw [(zAL hr).root_top (zAK hz) c,hz]
 simp only [beq_eq_false_iff_ne]
 omega
theorem zd7 {f:Forest} (hr:zAF f=true) {n:Int} {z:Node} (hz:idx f.Nodes n=some z) (e:z.Parent ≠ -1):z.Kind=1\/z.Kind=2:=by
 have c:=zBc (zAa hr).2.2.1 hz
 unfold zFb zK0 at c
 simp only [lM,dD,beq_iff_eq] at c
 rcases c.2.2.1 with h | ⟨h,_⟩
 ·exact absurd h e
 ·exact h
theorem par_up {f:Forest} (hr:zAF f=true) {n:Int} {z:Node} (hz:idx f.Nodes n=some z) (q:z.Kind=1\/z.Kind=2) (c:zHB f.Nodes n = -1):upI f.Nodes n = -1:=by
 have e:z.Parent = -1:=by unfold zHB at c;rw [hz] at c;exact c
 have m:z.Host = -1:=by
  by_cases h:z.Host = -1
  ·exact h
  ·obtain ⟨_,_,_,_,_,p⟩:=zRi (zAa hr).2.2.1 hz h
   omega
 unfold upI
 rw [hz]
 simp only
 rw [iP e,m]
theorem zYu {f:Forest} (hr:zAF f=true) {n j:Int} (m:InN f.Nodes n) (q:isB f.Nodes j 1=true):zO6 (zF1 f n) j 1=0/\zO6 (zF1 f n) j 2=bI (decide (zHB f.Nodes n ≠ -1)&&zEi f.Nodes n&&decide (n∈zGL f.Nodes j)):=by
 unfold zF1
 by_cases h:zHB f.Nodes n ≠ -1/\zEi f.Nodes n=true
 ·rw [iP h]
  refine ⟨zSo fun x hx=>?_,?_⟩
  ·obtain ⟨c,_,rfl⟩:=lE.1 hx
   simp [zK8]
  ·have:=zac (zRY hr m) ⟨2,0,0,0,[],false,false,[],[]⟩ j
   rw [this,h.2,decide_eq_true h.1,decide_eq_decide.2 (zXu hr m q)]
   rfl
 ·rw [iN h]
  refine ⟨rfl,?_⟩
  have:(decide (zHB f.Nodes n ≠ -1)&&zEi f.Nodes n)=false:=by
   by_cases e:zHB f.Nodes n ≠ -1
   ·rw [decide_eq_true e,iB]
    exact Bool.eq_false_iff.2 fun p=>h ⟨e,p⟩
   ·rw [decide_eq_false e];rfl
  rw [this];rfl
theorem zfk {f:Forest} (hr:zAF f=true) {n j:Int} (e:InN f.Nodes n) (c:isB f.Nodes j 1=true):zO6 (zF1 f n) j 1 - zO6 (zF1 f n) j 2=bI (zEi (zKY f.Nodes n) j) - bI (zEi f.Nodes j):=by
 obtain ⟨z,hz⟩:=zAJ e
 obtain ⟨E,F⟩:=zYu hr e c
 have U:=zAL hr
 have p:=zK2 c
 rw [E,F]
 by_cases u:z.Parent = -1
 ·have:zHB f.Nodes n = -1:=by unfold zHB;rw [hz];exact u
  rw [zLm hz u,this]
  simp [bI]
 ·have B:zHB f.Nodes n ≠ -1:=by unfold zHB;rw [hz];exact u
  have C:=zd7 hr hz u
  have q:=zLB hr e
  have D:=zAL q
  have hl:=zQo f.Nodes n
  have r:∀j,InN f.Nodes j->upI (zKY f.Nodes n) j=if j=n then -1 else upI f.Nodes j:=fun j c=>zgZ hr e c fun J t=>by rw [hz] at t;cases t;exact C
  have hs:=zRy hr e
  have I:=zWA (k:=n) U D hl (fun j c y=>by rw [r j c,iN y]) (fun m=>hs.isB) p
  obtain ⟨v,G,H,_⟩:=hs.2 n z hz
  have x:zEi (zKY f.Nodes n) n=false:=zYm (f:=⟨zKY f.Nodes n,f.Most⟩) q G (by rw [H];exact C) (by show upI (zKY f.Nodes n) n = -1;rw [r n e,iP rfl])
  rw [I,x,decide_eq_true B,iB]
  by_cases h:n∈zGL f.Nodes j
  ·rw [iP h,zRR U p h,decide_eq_true h,kM]
   simp [bI]
  ·rw [iN h,decide_eq_false h,jP]
   simp [bI]
theorem put_up {f:Forest} (hr:zAF f=true) {k p b:Int} {z y:Node} (P:Part f k p b z y) {j:Int} (q:InN f.Nodes j):upI (zKd f k p b) j=if j=k then p else upI f.Nodes j:=by
 obtain ⟨H,_⟩:=zSA hr P (fu:=1001) (by omega)
 obtain ⟨w,c⟩:=zAJ q
 have m:=H.at_ j w c
 have r:=zAK P.hy
 unfold upI
 rw [m,c]
 by_cases e:j=k
 ·subst e
  rw [iP rfl]
  simp [zgF]
  intro h;omega
 ·rw [iN e]
  simp [zgF,e]
theorem zfl {f:Forest} (hr:zAF f=true) {k p b:Int} {z y:Node} (P:Part f k p b z y) {j:Int} (D:isB f.Nodes j 1=true):zO6 (zZz f k p b) j 1 - zO6 (zZz f k p b) j 2=bI (zEi (zKd f k p b) j) - bI (zEi f.Nodes j):=by
 have U:=zAL hr
 have B:=zK2 D
 have u:=zAK P.hz
 have C:=zJJ hr P (fu:=1001) (by omega)
 have I:=zAL C
 have hl:=zYX hr P (fu:=1001) (by omega)
 have hs:=zSB hr P
 obtain ⟨J,K⟩:=zYu hr u D
 have E:∀q,q=1\/q=2->zO6 (zOx f k (zMC f.Nodes p)) j q=0:=fun q Q=>zSo fun x hx=>by
  unfold zOx at hx
  split at hx
  ·cases hx
  ·obtain ⟨c,_,rfl⟩:=lE.1 hx
   simp only [zK8,zYH];omega
 have hu:∀j,InN f.Nodes j->j≠k->upI (zKd f k p b) j=upI f.Nodes j:=fun j D H=>by rw [put_up hr P D,iN H]
 have L:zEi (zKd f k p b) j=if k∈zGL f.Nodes j then zEi (zKd f k p b) k else zEi f.Nodes j:=zWA (k:=k) U I hl hu (fun m=>hs.isB) B
 have N:k∈zGL (zKd f k p b) j↔k∈zGL f.Nodes j:=zYo (k:=k) U I hl hu j B
 have r:InN (zKd f k p b) k:=hs.inN.2 u
 have G:isB (zKd f k p b) j 1=true:=by rw [hs.isB];exact D
 have t:zO6 (zVE ⟨zKd f k p b,f.Most⟩ k) j 2=0/\zO6 (zVE ⟨zKd f k p b,f.Most⟩ k) j 1=bI (zEi (zKd f k p b) k&&decide (k∈zGL f.Nodes j)):=by
  unfold zVE
  simp only
  cases M:zEi (zKd f k p b) k with
  | false=>rw [iN (by simp)];exact ⟨rfl,rfl⟩
  | true =>
   rw [iP rfl]
   refine ⟨zSo fun x hx=>?_,?_⟩
   ·obtain ⟨c,_,rfl⟩:=lE.1 hx
    simp [zK8]
   ·have:=zac (zRY (f:=⟨zKd f k p b,f.Most⟩) C r) ⟨1,0,0,0,[],false,false,[],[]⟩ j
    have e:decide (j∈zL0 (zKd f k p b) k)=decide (k∈zGL f.Nodes j):=decide_eq_decide.2 ((zXu (f:=⟨zKd f k p b,f.Most⟩) C r G).trans N)
    rw [iB,<- e]
    exact this
 have F:(decide (zHB f.Nodes k ≠ -1)&&zEi f.Nodes k)=zEi f.Nodes k:=by
  by_cases h:zHB f.Nodes k = -1
  ·rw [zYm hr P.hz P.kind (par_up hr P.hz P.kind h),jP]
  ·rw [decide_eq_true h,iB]
 unfold zZz
 rw [zJg,zJg,zJg,zJg,J,K,E 1 (.inl rfl),E 2 (.inr rfl),t.1,t.2,L,F]
 by_cases h:k∈zGL f.Nodes j
 ·rw [iP h,zRR U B h,decide_eq_true h,kM,kM];omega
 ·rw [iN h,decide_eq_false h,jP,jP]
  simp [bI]
theorem Mv.bal {m:Nat} {f:Forest} (h:Mv m f g l) (hr:zAF f=true) {j:Int} (c:isB f.Nodes j 1=true):zO6 l j 1 - zO6 l j 2=bI (zEi g.Nodes j) - bI (zEi f.Nodes j):=by
 induction h with
 | refl f=>simp [zO6]
 | out h r q =>
  obtain ⟨e,_,p,_⟩:=h.all hr
  have:=zfk e r (j:=j) (by rw [p.isB];exact c)
  have i:=q hr c
  rw [zJg,zJg];simp only;omega
 | put h P q =>
  obtain ⟨e,_,p,_⟩:=h.all hr
  have:=zfl e P (j:=j) (by rw [p.isB];exact c)
  have i:=q hr c
  rw [zJg,zJg];simp only;omega
theorem zgO {a b:List Node} (h:Ext a b) {n k:Int} (m:InN a n):isB b n k=isB a n k:=by
 obtain ⟨x,hx⟩:=zAJ m
 obtain ⟨v,c,e,_⟩:=h.2 n x hx
 unfold isB;rw [hx,c];simp only [e]
theorem Chg.bal {f:Forest} (h:Chg f g l) (hr:zAF f=true) (E:zAF g=true) {j:Int} (t:isB f.Nodes j 1=true):zO6 l j 1 - zO6 l j 2=bI (zEi g.Nodes j) - bI (zEi f.Nodes j):=by
 obtain ⟨C,H,J,y,m,q,c,u,_,D,rfl,r,_⟩:=h
 have p:=zK2 t
 obtain ⟨F,_,G,_⟩:=u.all c
 have e:isB C.Nodes j 1=true:=by rw [zgO q p];exact t
 have I:=u.bal c e
 have z:=zXy (zAL hr) (zAL c) q p
 have B:=zXy (zAL F) (zAL E) D (zK2 (k:=1) (by rw [G.isB];exact e))
 rw [zJg,zJg,zSo (l:=y) (fun x hx=>by have:=r x hx;omega),zSo (l:=y) (fun x hx=>by have:=r x hx;omega),B,<- z]
 omega
end
section
def zPL (l:List Todo) (k:Int):Nat:=l.countP fun t=>t.Kind==k
theorem zTu (l m:List Todo) (k:Int):zPL (l++m) k=zPL l k+zPL m k:=jE
theorem zNx {l:List Todo} {k:Int} (h:∀t∈l,t.Kind≠k):zPL l k=0:=k9.2 fun t c=>by simp [h t c]
theorem many_l {l:List Todo} {k:Int} (hl:l.length<=1000000000):∀(j i K n:Nat),i+j=l.length->j<K->n<=i->zCC l k K ((n:Int),(i:Int))=some ((n+zPL (l.drop i) k:Nat):Int):=by
 intro j
 induction j with
 | zero =>
  intro i K n hi q r
  obtain ⟨K,rfl⟩:∃m,K=m+1:=⟨K - 1,by omega⟩
  obtain rfl:i=l.length:=by omega
  simp only [zCC]
  rw [zAS (by simp),List.drop_length];rfl
 | succ j p =>
  intro i K n hi q r
  obtain ⟨K,rfl⟩:∃m,K=m+1:=⟨K - 1,by omega⟩
  have h:i<l.length:=by omega
  simp only [zCC]
  have e:zPL (l.drop i) k=zPL (l.drop (i+1)) k+(if l[i].Kind=k then 1 else 0):=by
   rw [List.drop_eq_getElem_cons h]
   unfold zPL
   rw [dG]
   by_cases c:l[i].Kind=k
   ·rw [iP c,iP (by simpa using c)]
   ·rw [iN c,iN (by simpa using c)]
  rw [zAT (by simpa using h),zAW h,zAA,zAj,zAh (by omega),zAA,zAh (by omega),e]
  simp only [zAA]
  by_cases c:l[i].Kind=k
  ·rw [iP c,iP c,p (i+1) K (n+1) (by omega) (by omega) (by omega)]
   congr 2;omega
  ·rw [iN c,iN c,p (i+1) K n (by omega) (by omega) (by omega)]
   rfl
theorem many18 {fu n:Nat} {l:List Todo} {k:Int} (hl:l.length<=1000000000) (c:l.length<fu) (e:n<=l.length):zEF fu l (n:Int) k=some ((zPL (l.drop n) k:Nat):Int):=by
 have:=many_l (k:=k) hl (l.length - n) n fu 0 (by omega) (by omega) (by omega)
 rw [Nat.zero_add] at this
 exact this
theorem zap (a b:List Due) (i:Nat):zGv (a++b) i=zGv a i++zGv b i:=by unfold zGv;rw [List.filter_append,List.map_append]
def dueH (f:Forest) (st:List State) (d:Desk) (cs:List Class) (x:Note):List Due:=match (if isB f.Nodes x.Node 1=true then (zcx f st d cs x).map (fun t=>(⟨x.Node,t⟩:Due)) else none) with | some u=>[u] | none=>[]
theorem zdW {f:Forest} {st:List State} {d:Desk} {cs:List Class} {x:Note}:zPQ f st d cs (x::l)=dueH f st d cs x++zPQ f st d cs l:=by
 unfold zPQ dueH
 rw [List.filterMap_cons]
 split
 ·rename_i e;rw [e];rfl
 ·rename_i e;rw [e];rfl
theorem zWr {u:Due} {i:Nat} (h:u.Node≠(i:Int)):zGv [u] i=[]:=by unfold zGv;simp [h]
theorem zVO {t:Todo} {i:Nat}:zGv [(⟨(i:Int),t⟩:Due)] i=[t]:=by unfold zGv;simp
section
variable {f:Forest} {st:List State} {d:Desk} {cs:List Class} {i:Nat} {s:State} (hs:st[i]? = some s)
include hs
theorem zWs {c:Class} (p:s.Phase=3) (q:zFs s d.Defs cs=some c) (m:isB f.Nodes (i:Int) 1=true) {k:Int} (D:k=1\/k=2) (r:zHW c k=true):∀l:List Note,((zPL (zGv (zPQ f st d cs l) i) k:Nat):Int)=zO6 l (i:Int) k
 | []=>rfl
 | x::l=>by
  have F:=zWs p q m D r l
  rw [zdW,zap,zTu,show x::l=[x]++l from rfl,zJg,<- F]
  suffices h:((zPL (zGv (dueH f st d cs x) i) k:Nat):Int)=zO6 [x] (i:Int) k by omega
  by_cases e:x.Node=(i:Int)
  ·obtain ⟨y,hy⟩:=zAJ (zK2 m)
   have B:zcx f st d cs x=if ((x.Kind=4/\zLv c x.Name=true)\/x.Kind=1\/x.Kind=2\/x.Kind=3)/\zHW c x.Kind=true then some (zZZ x) else none:=by
    unfold zcx
    rw [e,zHX,hs,hy]
    simp only
    rw [iN (by omega),iP p,q]
   have C:dueH f st d cs x=if ((x.Kind=4/\zLv c x.Name=true)\/x.Kind=1\/x.Kind=2\/x.Kind=3)/\zHW c x.Kind=true then [(⟨(i:Int),zZZ x⟩:Due)] else []:=by
    unfold dueH
    rw [B,e,iP m]
    by_cases g:((x.Kind=4/\zLv c x.Name=true)\/x.Kind=1\/x.Kind=2\/x.Kind=3)/\zHW c x.Kind=true
    ·rw [iP g,iP g];rfl
    ·rw [iN g,iN g];rfl
   rw [C]
   by_cases g:x.Kind=k
   ·rw [iP ⟨by omega,by rw [g];exact r⟩,zVO]
    simp [zPL,zO6,zZZ,g,e]
   ·have hz:zO6 [x] (i:Int) k=0:=zSo fun z hz=>by rw [e8.1 hz];exact g
    rw [hz]
    split
    ·rw [zVO,zNx fun t E=>by rw [e8.1 E];exact g];rfl
    ·rfl
  ·have hz:zO6 [x] (i:Int) k=0:=by simp [zO6,e]
   rw [hz]
   unfold dueH
   split
   ·rename_i u hu
    split at hu
    ·obtain ⟨t,_,rfl⟩:=lI.1 hu
     rw [zWr e];rfl
    ·cases hu
   ·rfl
theorem zdX (q:s.Phase≠3) {l:List Note}:∀t∈zGv (zPQ f st d cs l) i,t.Kind=9:=fun t m=>by
 unfold zGv at m
 obtain ⟨u,hu,rfl⟩:=lE.1 m
 obtain ⟨hu,h⟩:=iH.1 hu
 obtain ⟨_,_,x,_,e,c⟩:=zao hu
 rw [beq_iff_eq] at h
 unfold zcx at c
 rw [<- e,h,zHX,hs] at c
 split at c
 ·rename_i p _
  cases p
  split at c
  ·split at c
   ·rw [<- Option.some.inj c];rfl
   ·cases c
  ·cases c
 ·cases c
end
theorem zZm {f:Forest} (q:WR w) (H:zAF f=true) (x:zHF w f) (h:zZ8 w f notes v) (i:Nat) (hi:i<f.Nodes.length) :
  ∃D s C,(∀t∈D,t.Kind=5\/t.Kind=6)/\v.Line.Todos[i]? = some ((w.Line.Todos[i]?).getD []++(zGv (zPQ f (st1 w f) w.Desk w.Classes notes) i++D))/\(st1 w f)[i]? = some s/\v.States[i]? = some C/\C.Phase=s.Phase/\C.Def=s.Def:=by
 have z:=zM1 q H x
 have E:=zN0 (l:=(zfH w f).Line) (ts:=(zfH w f).Tasks) (due:=zPQ f (st1 w f) w.Desk w.Classes notes) i (fun u hu=>z.inL (zT0 notes u hu).1)
 obtain ⟨c,m,rfl,y,G,_⟩:=h
 have B:=zM2 (notes:=notes) q H x y
 have F:=zN0 (l:=(zdv w f notes c).Line) (ts:=(zdv w f notes c).Tasks) (due:=m) i (fun u hu=>B.inL (zK2 (G u hu).1))
 have J:(zfH w f).Line.Todos[i]? = some ((w.Line.Todos[i]?).getD []):=by
  show (w.Line.Todos++dH (f.Nodes.length - w.Forest.Nodes.length) [])[i]? = _
  rcases Nat.lt_or_ge i w.Line.Todos.length with g | g
  ·rw [lN g,lC g];rfl
  ·rw [cC g,cX g]
   have:=q.td
   rw [List.getElem?_replicate,iP (by omega)];rfl
 rw [J] at E
 have r:(zdv w f notes c).Line.Todos[i]? = some ((w.Line.Todos[i]?).getD []++zGv (zPQ f (st1 w f) w.Desk w.Classes notes) i):=E
 rw [r] at F
 have hl:=zOE q x
 have p:i<c.length:=by rw [y.1,hl];exact hi
 obtain ⟨s,L,M⟩:=y.2 i _ (lC p)
 refine ⟨zGv m i,s,c[i],fun t I=>?_,by rw [<- eS];exact F,L,lC p,?_⟩
 ·unfold zGv at I
  obtain ⟨u,hu,rfl⟩:=lE.1 I
  exact (G u (iH.1 hu).1).2
 ·rcases M with e | ⟨_,r,K,_⟩
  ·rw [e];exact ⟨rfl,rfl⟩
  ·exact ⟨r,K⟩
def Lv (w v:World) (i:Nat):Prop:=∃x s,v.Line.Todos[i]? = some ((w.Line.Todos[i]?).getD []++x)/\v.States[i]? = some s/\(s.Phase≠3->zPL x 1=0/\zPL x 2=0) /\
 (s.Phase=3->∀c,zFs s v.Desk.Defs v.Classes=some c->zHW c 1=true->zHW c 2=true->(zPL x 1:Int) - (zPL x 2:Int)=bI (zEi v.Forest.Nodes (i:Int)) - (if i<w.States.length then bI (zEi w.Forest.Nodes (i:Int)) else 0))
theorem Lv.same {i:Nat} {x:List Todo} {s:State} (u:i<w.States.length) (p:v.Line.Todos[i]? = some ((w.Line.Todos[i]?).getD []++x)) (q:v.States[i]? = some s) (m:∀t∈x,3<=t.Kind) (r:v.Forest=w.Forest):Lv w v i:=by
 have e:zPL x 1=0:=zNx fun t c=>by have:=m t c;omega
 have h:zPL x 2=0:=zNx fun t c=>by have:=m t c;omega
 refine ⟨x,s,p,q,fun _=>⟨e,h⟩,fun _ _ _ _ _=>?_⟩
 rw [e,h,iP u,r];simp
theorem zZb (c:WR w) {i:Nat} {s:State} (hs:w.States[i]? = some s) (h:s.Phase=3):isB w.Forest.Nodes (i:Int) 1=true:=by
 have hi:i<w.Forest.Nodes.length:=by rw [<- c.st];exact (lF.1 hs).1
 have hx:=lC hi
 have:=c.per i s _ hs hx
 unfold zLF at this
 unfold isB
 rw [zHX,hx]
 refine beq_iff_eq.2 ?_
 by_cases e:w.Forest.Nodes[i].Kind=1
 ·exact e
 ·rw [iN e] at this
  unfold zWu at this
  simp only [lM,beq_iff_eq] at this
  omega
theorem zdr (E:WR w) (h:zZ1 w o v n) {i:Nat} (hi:i<v.States.length):Lv w v i:=by
 rcases h with ⟨_,h⟩ | ⟨_,h⟩ | ⟨_,h⟩
 ·obtain ⟨_,_,rfl⟩:=h
  have r:i<w.States.length:=hi
  refine Lv.same (x:=[]) r ?_ (lC r) (by simp) rfl
  have:i<w.Line.Todos.length:=by rw [E.td,<- E.st];exact r
  show w.Line.Todos[i]? = _
  rw [lC this];simp
 ·obtain ⟨due,rfl,_,h2,_⟩:=h
  have r:i<w.States.length:=hi
  have:i<w.Line.Todos.length:=by rw [E.td,<- E.st];exact r
  refine Lv.same (x:=zGv due i) r ?_ (lC r) (fun t C=>?_) rfl
  ·have e:=zN0 (l:=w.Line) (ts:=w.Tasks) i (fun u hu=>E.inL (h2 u hu).1)
   show (zSL w.Line w.Tasks due).1.Todos[i]? = _
   rw [e,lC this];rfl
  ·unfold zGv at C
   obtain ⟨u,hu,rfl⟩:=lE.1 C
   exact (h2 u (iH.1 hu).1).2.2
 ·obtain ⟨g,l,K,p,hC,Q,N,P,hN,rfl⟩:=h
  have m:=P.same
  have J:=zTO E Q N P
  have S:g.Nodes.length=K.States.length:=by rw [J.st,m.1]
  have W:i<g.Nodes.length:=by rw [S];exact hi
  obtain ⟨L,s,s',k1,k2,F,k4,k5,k6⟩:=zZm E Q N P i W
  have e:=zN0 (l:=K.Line) (ts:=K.Tasks) (due:=p) i (fun u hu=>J.inL (by rw [m.1];exact (zbe hN u hu).1))
  rw [k2] at e
  have X:∀t∈zGv p i,t.Kind=9:=fun t C=>by
   unfold zGv at C
   obtain ⟨u,hu,rfl⟩:=lE.1 C
   obtain ⟨_,_,_,_,_,_,h5⟩:=hN.2 u (iH.1 hu).1
   rw [h5];rfl
  have z:∀k:Int,k=1\/k=2->zPL (zGv (zPQ g (st1 w g) w.Desk w.Classes l) i++L++zGv p i) k=zPL (zGv (zPQ g (st1 w g) w.Desk w.Classes l) i) k:=fun k hk=>by
   rw [zTu,zTu,zNx (l:=L) (fun t C=>by have:=k1 t C;omega),zNx (l:=zGv p i) (fun t C=>by have:=X t C;omega)];rfl
  refine ⟨zGv (zPQ g (st1 w g) w.Desk w.Classes l) i++L++zGv p i,s',?_,k4,fun M=>?_,fun M c hc T V=>?_⟩
  ·show (zSL K.Line K.Tasks p).1.Todos[i]? = _
   rw [e];simp only [Option.map_some,eS]
  ·have hd:=zdX (f:=g) (d:=w.Desk) (cs:=w.Classes) F (by rw [<- k5];exact M) (l:=l)
   rw [z 1 (.inl rfl),z 2 (.inr rfl)]
   exact ⟨zNx fun t C=>by rw [hd t C];omega,zNx fun t C=>by rw [hd t C];omega⟩
  ·have D:s.Phase=3:=by rw [<- k5];exact M
   have I:i<w.States.length:=by
    rcases Nat.lt_or_ge i w.States.length with q | q
    ·exact q
    ·exfalso
     unfold st1 at F
     rw [cC q,List.getElem?_map] at F
     obtain ⟨x,_,rfl⟩:=lI.1 F
     exact zWh x D
   have hws:w.States[i]? = some s:=by
    unfold st1 at F
    rw [lN I] at F;exact F
   have B:=zZb E hws D
   have G:isB g.Nodes (i:Int) 1=true:=by
    obtain ⟨x,hx⟩:=zAJ (zK2 B)
    obtain ⟨y,hy,hk⟩:=N.2.2 i x (by rw [zHX] at hx;exact hx)
    unfold isB at B ⊢
    rw [hx] at B
    rw [zHX,hy]
    simp only [beq_iff_eq] at B ⊢
    rw [hk];exact B
   have H:zFs s w.Desk.Defs w.Classes=some c:=by
    have e1:zFs s w.Desk.Defs w.Classes=zFs s' w.Desk.Defs w.Classes:=by unfold zFs;rw [k6]
    rw [e1,<- m.2.1,<- m.2.2.2];exact hc
   rw [z 1 (.inl rfl),z 2 (.inr rfl),zWs F D H G (.inl rfl) T,zWs F D H G (.inr rfl) V,iP I]
   have hb:=hC.bal E.fr Q B
   rw [hb,<- m.1]
   rfl
theorem zgQ {fu B:Nat} (hfu:1000000000<fu) (hB:B<=800000000) (t:WR w) (I:WR v) (T:WS B v) (hL:∀i,i<v.States.length->Lv w v i):zAR fu w (v,n,0) fu 0=some true:=by
 have hst:=T.states
 refine zhL (L:=zAR fu w (v,n,0)) v.States (some true) (fun i hi k=>?_) (fun k=>?_) (by omega)
 ·obtain ⟨x,s,S,W,X,h4⟩:=hL i hi
  have M:InN v.Forest.Nodes (i:Int):=by unfold InN;rw [<- I.st];omega
  have r:((w.Line.Todos[i]?).getD []++x).length<=B:=T.line.todo _ (List.mem_of_getElem? S)
  have G:∀(e:Nat) (h:Bool),e=((w.Line.Todos[i]?).getD []).length->(h=if i<w.States.length then zEi w.Forest.Nodes (i:Int) else false)->zCE fu (v,n,0) (i:Int) (zAR fu w (v,n,0) k) ((e:Int),h)=zAR fu w (v,n,0) k ((i+1:Nat):Int):=fun e h D E=>by
   have u:((w.Line.Todos[i]?).getD []++x).drop e=x:=by rw [D,List.drop_left]
   have V:∀q:Int,zEF fu ((w.Line.Todos[i]?).getD []++x) (e:Int) q=some ((zPL x q:Nat):Int):=fun q=>by
    rw [many18 (by omega) (by omega) (by rw [D];simp),u]
   have c1:zPL x 1<=B:=Nat.le_trans jA (by simp only [eR] at r;omega)
   have c2:zPL x 2<=B:=Nat.le_trans jA (by simp only [eR] at r;omega)
   have m:∀z:Int,-1000000000000<=z->z<=1000000000000->rng .i64 z=some z:=fun z g1 g2=>zJn (by simp only [lo,Go.Pw.hi];omega)
   have hi':i<v.States.length:=hi
   unfold zCE
   simp only
   rw [zHX,S,zAA,V,zAA,zAA,V,zAA,zHX,W,zAA,zAi,zAh (by omega)]
   by_cases H:s.Phase=3
   ·rw [iP H,zAA,zTt,zAA]
    cases hc:zFs s v.Desk.Defs v.Classes with
    | none=>simp only [jK,zAO,zAA]
    | some c =>
     simp only [iA,zAG]
     rw [zOn,zAA]
     cases J:zHW c 1 with
     | false=>simp only [jK,zAO,zAA]
     | true =>
      simp only [iA,zAG]
      rw [zOn,zAA]
      cases K:zHW c 2 with
      | false=>simp only [jK,zAO,zAA]
      | true =>
       have y:=h4 H c hc J K
       have j2:∀q:Int,(q=0\/q=1)->(zPL x 1:Int) - (zPL x 2:Int)=q - bI h->zCF (i:Int) h ((zPL x 1:Nat):Int) ((zPL x 2:Nat):Int) (zAR fu w (v,n,0) k) q=zAR fu w (v,n,0) k ((i+1:Nat):Int):=fun q hq p=>by
        unfold zCF
        rw [zAh (by omega)]
        cases h with
        | false =>
         simp only [bI,dL,if_false] at p
         rw [zAG,m _ (by omega) (by omega),zAA,zAi,iP (by omega),zAA]
        | true =>
         simp only [bI,if_true] at p
         rw [zAO,m _ (by omega) (by omega),zAA,m _ (by omega) (by omega),zAA,zAi,iP (by omega),zAA]
       have P:(if i<w.States.length then bI (zEi w.Forest.Nodes (i:Int)) else 0)=bI h:=by
        rw [E];split<;>rfl
       rw [P] at y
       simp only [iA,zAG]
       rw [zQw (zAH I.fr) (by omega) I.fr M,zAA]
       cases C:zEi v.Forest.Nodes (i:Int) with
       | true =>
        rw [zAO,m _ (by omega) (by omega),zAA]
        rw [C] at y
        exact j2 _ (by omega) (by simpa [bI] using y)
       | false =>
        rw [zAG]
        rw [C] at y
        exact j2 0 (.inl rfl) (by simpa [bI] using y)
   ·obtain ⟨z1,z2⟩:=X H
    rw [iN H,z1,z2,m _ (by omega) (by omega),zAA,zAS (by simp),zAA]
  simp only [zAR]
  rw [zAT (by simpa using hi),zAQ]
  by_cases N:i<w.States.length
  ·have F:i<w.Line.Todos.length:=by rw [t.td,<- t.st];exact N
   have Q:InN w.Forest.Nodes (i:Int):=by unfold InN;rw [<- t.st];omega
   rw [iP (by omega),zAW F,zAA,zQw (zAH t.fr) (by omega) t.fr Q,zAA]
   exact G _ _ (by rw [lC F];rfl) (by rw [iP N])
  ·rw [iN (by omega)]
   exact G 0 false (by rw [cX (by rw [t.td,<- t.st];omega)];rfl) (by rw [iN N])
 ·simp only [zAR]
  rw [zAS (by simp)]
theorem deedLives (w:World) (o:Op):∃c,zBo c w o=some true:=by
 refine ⟨10000000000,?_⟩
 unfold zBo
 rw [zfi,zAA,iA,zAG]
 generalize t:(10000000000:Nat)=c
 have m:1000000000<c:=by omega
 obtain ⟨r,y,z⟩:=zg7 m (w:=w)
 rw [y,zAA]
 cases r with
 | false=>rfl
 | true =>
  obtain ⟨p,E⟩:=z rfl
  rw [iA,zAG,zAQ]
  by_cases hs:o.S.length<=300
  ·rw [iN (by omega),zAQ]
   by_cases G:o.T.length<=300
   ·rw [iN (by omega),zU6 p (by omega) (by omega),zAA]
    cases D:zTV w with
    | false=>rfl
    | true =>
     have h:=WR.iff.1 D
     obtain ⟨v,n,e,u,x⟩:=do_ok (fu:=c) (B:=60) (w:=w) (o:=o) (by omega) (by omega) p h hs
     rw [iA,zAG,u,zAA]
     simp only
     rw [zAi]
     rcases x with ⟨F,rfl,rfl⟩ | ⟨rfl,H,I,q⟩
     ·rw [iN F]
     ·rw [iP rfl]
      have C:=zZj p h (by omega) q
      exact zgQ m (B:=60+2100000) (by omega) h (zbG h q).wr C fun i hi=>zdr h q hi
   ·rw [iP (by omega)]
  ·rw [iP (by omega)]
end
end Go.Proofs.YtmfbghpealgaiaaGreatDoor
