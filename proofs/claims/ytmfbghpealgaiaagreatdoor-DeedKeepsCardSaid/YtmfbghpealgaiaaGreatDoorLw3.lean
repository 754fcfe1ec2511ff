/- Plain laws on the models, one behind the other. -/
import Derived.Test.YtmfbghpealgaiaaGreatDoorLw2
/- What no operation changes; the law DeedKeeps of layer 18 (deed). -/
namespace Go.Proofs.YtmfbghpealgaiaaGreatDoor
open Go Go.Pw
open List renaming getElem?_eq_some_iff->lF,getElem?_eq_getElem->lC,length_append->eR,append_nil->gI,getElem?_append_left->lN,length_cons->cP,length_nil->eK
open Bool renaming not_true->iA,or_eq_true->dD,and_eq_true->lM
variable {w v:World} {o:Op} {n:Int}
structure Keep (w v:World):Prop where
 wr:WR v
 builds:v.Builds=w.Builds
 defs:v.Desk.Defs=w.Desk.Defs
 busy:v.Desk.Busy=w.Desk.Busy
 classes:v.Classes=w.Classes
 states:∀(i:Nat) (s:State),w.States[i]? = some s->∃s',v.States[i]? = some s'/\s'.Phase=s.Phase/\s'.Def=s.Def
 todos:∀(i:Nat) (a:List Todo),w.Line.Todos[i]? = some a->∃b,v.Line.Todos[i]? = some (a++b)
theorem Keep.enl (h:Keep w v) {due:List Due} (c:∀u∈due,InN v.Forest.Nodes u.Node/\zIS v.Desk.Defs.length u.Todo=true):Keep w (zUK v due):=by
 refine ⟨h.wr.enl c,h.builds,h.defs,h.busy,h.classes,h.states,fun i a d=>?_⟩
 obtain ⟨b,f⟩:=h.todos i a d
 have e:=zXK (l:=v.Line) (ts:=v.Tasks) i (fun u g=>h.wr.inL (c u g).1)
 rw [f] at e
 exact ⟨b++zbF due i,by rw [<- List.append_assoc];exact e⟩
theorem Keep.refl (h:WR w):Keep w w:=⟨h,rfl,rfl,rfl,rfl,fun _ s c=>⟨s,c,rfl,rfl⟩,fun _ a b=>⟨[],by rw [gI];exact b⟩⟩
theorem zbm {f:Forest} (e:WR w) (g:zAH f=true) (d:zH8 w f):Keep w (mid1 w f):=by
 refine ⟨zPr e g d,rfl,rfl,rfl,rfl,fun i s c=>⟨s,?_,rfl,rfl⟩,fun i a b=>⟨[],?_⟩⟩
 ·show (w.States++(f.Nodes.drop w.Forest.Nodes.length).map zUB)[i]? = some s
  rw [lN (lF.1 c).1];exact c
 ·rw [gI]
  show (w.Line.Todos++List.replicate (f.Nodes.length - w.Forest.Nodes.length) [])[i]? = some a
  rw [lN (lF.1 b).1];exact b
theorem zbn {f:Forest} {notes:List Note} (p:WR w) (q:zAH f=true) (m:zH8 w f) (h:zdQ w f notes v):Keep w v:=by
 have r:Keep w (zVE w f notes):=(zbm p q m).enl (due:=zWm f (st1 w f) w.Desk w.Classes notes) (zXJ notes)
 obtain ⟨a,d,rfl,c,B,_⟩:=h
 have E:Keep w (mid3 w f notes a):=by
  refine ⟨zPs p q m c,rfl,rfl,rfl,rfl,fun i s C=>?_,r.todos⟩
  obtain ⟨F,j,k,l⟩:=r.states i s C
  have hi:i<a.length:=by
   rw [c.1];exact (lF.1 j).1
  obtain ⟨H,g,t⟩:=c.2 i _ (lC hi)
  have b:(st1 w f)[i]? = some F:=j
  rw [b] at g
  obtain rfl:=Option.some.inj g
  refine ⟨a[i],lC hi,?_⟩
  rcases t with e | ⟨_,x,y,_⟩
  ·rw [e];exact ⟨k,l⟩
  ·exact ⟨x.trans k,y.trans l⟩
 refine E.enl fun u D=>?_
 obtain ⟨z,G⟩:=B u D
 refine ⟨zVv z,?_⟩
 unfold zIS
 simp only [dD,lM,decide_eq_true_eq]
 left;omega
theorem zg2 {g:Forest} {n:Nat} {d:Desk} {due:List Due} (h:newD g n d due):∀u∈due,InN g.Nodes u.Node/\zIS d.Defs.length u.Todo=true:=fun u e=>by
 obtain ⟨m,x,f,_,a,b,c⟩:=h.2 u e
 refine ⟨?_,?_⟩
 ·unfold InN
  have:=(lF.1 a).1
  omega
 ·rw [c]
  unfold zIS zfv
  simp only [dD,lM]
  right
  exact ⟨rfl,zJ8.2 (zO3.resolve_left b)⟩
theorem zbl (c:WR w) (h:zaT w o v n):Keep w v:=by
 rcases h with ⟨_,h⟩ | ⟨_,h⟩ | ⟨_,h⟩
 ·obtain ⟨y,_,rfl⟩:=h
  obtain ⟨_,z,_,e,B,_,C,D,E⟩:=zOG y
  refine ⟨⟨c.st,c.td,?_,c.fr,z,c.ln,fun i s x f hx=>?_,fun l K t d=>?_,fun t d=>?_,fun b I=>?_⟩,rfl,e,B,rfl,fun _ s f=>⟨s,f,rfl,rfl⟩,fun _ a H=>⟨[],by rw [gI];exact H⟩⟩
  ·have:=c.cl
   unfold zKg at this ⊢
   simp only [e]
   exact this
  ·simp only [e];exact c.per i s x f hx
  ·simp only [e];exact c.todo l K t d
  ·simp only [e] at d ⊢
   have old:t∈w.Tasks->zSy w.Desk.Defs.length t=true:=c.task t
   split at d
   ·exact old d
   ·rename_i m
    rcases List.mem_append.1 d with d | d
    ·exact old d
    ·rw [List.mem_singleton.1 d]
     rcases E with j | j
     ·exact absurd j.1 m
     ·unfold zSy
      simp only [dD,lM,decide_eq_true_eq]
      right
      exact ⟨rfl,by rw [C];exact D,zJ8.2 ⟨j.1,j.2.1⟩⟩
  ·simp only [e];exact c.build b I
 ·obtain ⟨due,rfl,_,q,_⟩:=h
  exact (Keep.refl c).enl fun u k=>⟨(q u k).1,(q u k).2.1⟩
 ·obtain ⟨g,l,L,p,_,J,F,r,G,rfl⟩:=h
  have f:=r.same
  refine (zbn c J F r).enl fun u k=>?_
  rw [f.1,f.2.1]
  exact zg2 G u k
theorem zaB {B:Nat} (a:WS B w) (m:WR w) (u:w.Desk.Waits.length<=899) (h:zaT w o v n):WS (B+2100000) v:=by
 rcases h with ⟨_,h⟩ | ⟨_,h⟩ | ⟨_,h⟩
 ·obtain ⟨d,_,rfl⟩:=h
  obtain ⟨_,_,_,e,_,_,_,_,f⟩:=zOG d
  refine ⟨a.line.mono (by omega),?_,by have:=a.builds;simp only;omega,by simp only [e];exact a.defs,?_,a.kids,by have:=a.states;simp only;omega⟩
  ·have:=a.tasks
   simp only
   split
   ·omega
   ·simp only [eR,cP,eK];omega
  ·simp only
   rcases f with c | c
   ·rw [c.2];simp only [eR,cP,eK];omega
   ·rw [c.2.2];omega
 ·obtain ⟨due,rfl,r,_,_⟩:=h
  have:=a.enl (due:=due)
  exact ⟨this.line.mono (by omega),by have:=this.tasks;omega,by have:=this.builds;omega,this.defs,this.waits,this.kids,by have:=this.states;omega⟩
 ·obtain ⟨g,l,x,b,i,q,j,p,k,rfl⟩:=h
  have t:=i.len
  have s:=k.1
  have:=(zTj a m q j p).enl (due:=b)
  exact ⟨this.line.mono (by omega),by have:=this.tasks;omega,by have:=this.builds;omega,this.defs,this.waits,this.kids,by have:=this.states;omega⟩
theorem zgu {fu B:Nat} (d:1000000000<fu) (E:B<=800000000) (g:Keep w v) (j:WS B w) (F:WS B v) (e:WR w) (t:zaT w o v n):zA9 fu w o (v,n,0) fu 0=some true:=by
 have C:=j.states
 refine zHw (L:=zA9 fu w o (v,n,0)) w.States (some true) (fun i hi k=>?_) (fun k=>?_) (by omega)
 ·have c:i<w.Line.Todos.length:=by rw [e.td,<- e.st];exact hi
  have f:=lC c
  obtain ⟨b,x⟩:=g.todos i _ f
  obtain ⟨G,q,r,s⟩:=g.states i _ (lC hi)
  have u:=j.line.todo _ (List.getElem_mem c)
  simp only [zA9]
  rw [zAO (by simpa using hi),zAS c,zAA,zL4,x,zAA,zL4,q,zAA,zAS hi,zAA,zAX,iP r,zAA,zAA,zAX,iP s,zAN (by simp only [eR];exact decide_eq_false (by omega))]
  have z:piece (w.Line.Todos[i]++b) 0 ((w.Line.Todos[i].length:Nat):Int)=some w.Line.Todos[i]:=by
   unfold piece
   rw [iP ⟨by omega,by omega,by simp only [eR];omega⟩]
   congr 1
   simp only [Int.toNat_zero,List.drop_zero,Int.toNat_natCast,Nat.sub_zero]
   exact List.take_left' rfl
  rw [z,zAA,zTi d (by omega),zAA,iA,zAD,zAY (by omega),zAA]
 ·simp only [zA9]
  rw [zAN (by simp),zAX]
  rcases t with ⟨a,h⟩ | ⟨a,_⟩ | ⟨a,_⟩
  ·obtain ⟨l,rfl,rfl⟩:=h
   obtain ⟨_,_,_,_,_,m,p,D,_⟩:=zOG l
   have y:=(zPt (show opF _ _ _ _ _=true from e.dk)).2
   rw [iP a]
   simp only
   rw [(zAG e.fr).same (by omega),zAA,zAP,zSX d (by omega),zAA,zAP,zKC (by simp only [lo,Go.Pw.hi];omega),zAA,zAi,iP m,p]
   simp
  ·rw [iN a]
  ·rw [iN a]
theorem deedKeeps (w:World) (o:Op):∃f,zBr f w o=some true:=by
 refine ⟨10000000000,?_⟩
 unfold zBr
 rw [zgB,zAA,iA,zAD]
 generalize j:(10000000000:Nat)=f
 have b:1000000000<f:=by omega
 obtain ⟨r,m,p⟩:=zhc b (w:=w)
 rw [m,zAA]
 cases r with
 | false=>rfl
 | true =>
  obtain ⟨a,t⟩:=p rfl
  rw [iA,zAD,zAR]
  by_cases q:o.S.length<=300
  ·rw [iN (by omega),zAR]
   by_cases z:o.T.length<=300
   ·rw [iN (by omega),zRk a (by omega) (by omega),zAA]
    cases s:zTp w with
    | false=>rfl
    | true =>
     have d:=WR.iff.1 s
     obtain ⟨v,n,e,k,l⟩:=do_ok (fu:=f) (B:=60) (w:=w) (o:=o) (by omega) (by omega) a d q
     rw [iA,zAD,k,zAA]
     simp only
     rw [zAX]
     rcases l with ⟨u,rfl,rfl⟩ | ⟨rfl,x,y,h⟩
     ·rw [iN u,zAi,iP rfl,zaP b a (by omega) d,zAA]
     ·have c:=zbl d h
      have i:=zaB a d (by omega) h
      have g:=d.allowed
      rw [iP rfl,zRk i (by omega) (by omega),zAA,WR.iff.2 c.wr,c.builds,c.defs,c.busy,c.classes]
      simp only [iA,zAD,beq_self_eq_true]
      rw [zAX,iP rfl,zAX,iP rfl,zQK b (by omega) g.2,zAA,zb8,zAA,x,zWM,zAA,y]
      simp only [iA,zAD]
      exact zgu b (B:=60+2100000) (by omega) c ⟨a.line.mono (by omega),by have:=a.tasks;omega,by have:=a.builds;omega,a.defs,a.waits,a.kids,by have:=a.states;omega⟩ i d h
   ·rw [iP (by omega)]
  ·rw [iP (by omega)]
end Go.Proofs.YtmfbghpealgaiaaGreatDoor
