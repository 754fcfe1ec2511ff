/- Plain laws on the models, one behind the other. -/
import Derived.Test.YtmfbghpealgaiaaGreatDoorG
import Derived.Test.YtmfbghpealgaiaaGreatDoorLw1
/- Layer 6: a node is inserted, removed, or put in another one's place. -/
namespace Go.Proofs.YtmfbghpealgaiaaGreatDoor
open Go Go.Pw
open List renaming length_cons->cP,length_nil->eK,getElem_mem->gC,getElem?_eq_getElem->lC,length_append->eR,mem_append->cA,mem_singleton->e8,all_eq_true->lR,nil_append->iU,mem_or_eq_of_mem_set->dT,take_succ_eq_append_getElem->iE,append_assoc->eS,mem_cons_self->lH,mem_cons_of_mem->lG,all_cons->cK,all_nil->iQ,drop_length->kK,drop_eq_getElem_cons->eT,length_drop->iK,append_nil->gI,length_map->lL,mem_of_getElem?->lU,range->cW,replicate->dH,getElem_of_mem->iW,map_append->gG,map_cons->lT,take_length->iI,mem_map->lE,length_filterMap_le->kL,mem_filterMap->kM,getElem?_eq_some_iff->lF,mem_replicate->kN,take_of_length_le->kH,mem_filter->iJ,take_append_of_le_length->iV,sum_cons->kQ,filterMap_cons->kR,getElem?_set->kS,mem_range->jO,filter_append->jK,eq_nil_iff_forall_not_mem->kT,countP_cons->dG,getElem?_map->lK,take_set_of_le->kV,sum_append->kW,getElem?_append_right->cC,length_pos_of_mem->kX,all_append->kZ,take_take->jI,filter_cons->k9,length_replicate->kF,getElem?_drop->cD,filter_eq_self->jM,drop_drop->mB
open Nat renaming le_refl->cB,le_trans->eM
open Int renaming toNat_natCast->eO
open Option renaming some->lJ,isNone_none->kJ,getD_some->cM,map_some->lW,isSome_none->kU,isSome_iff_exists->kY,map_eq_some_iff->lI
open Bool renaming not_true->iA,and_eq_true->lM,true_and->iD,not_false->jL,or_eq_true->dD,false_and->jD,eq_false_iff->iL,not_not->kI,false_or->e9,and_true->kO,false_eq_true->dL,eq_iff_iff->eW,or_eq_false_iff->iY
variable {n next many:Int} {l:Line} {x:Node} {notes:List Note} {o:Op} {ns a b:List Node} {rows m:List (Node×Bool)} {g:Forest} {t:Todo} {κ ν:Type} {due:List Due} {v:World} {names:List (Bs×Int)} {ids:List (Int×List (Bs×Int))} {L:List Int} {r:Forest×List Note×Int} {defs:List Def}
section
instance (ns:List Node) (n:Int):Decidable (InN ns n):=inferInstanceAs (Decidable (0<=n/\n<ns.length))
theorem zFV {fu:Nat} (w:Bs) (e:Int):zBN fu w e=some (if e=0 then none else some (w,e)):=by
 unfold zBN;rw [zAd];split<;>rfl
def Hand (f:Forest) (N:Nat) (r:Forest×List Note×Int):Prop:=(∃e,e≠0/\r=(f,[],e))\/∃m g l,m<=N/\Mv m f g l/\r=(g,l,0)
section
variable {fu:Nat} {f:Forest} (hr:zAG f=true) (hfu:1000<fu)
include hr hfu
theorem zWh (t:Int->List (Node×Bool)->List Note->Option (Option (Bs×Int)×List (Node×Bool)×List Note)) (p:Bs×Int):zC9 fu t f (some p)=some (f,[],p.2):=by
 unfold zC9
 rw [zSu (zAE hr) hfu,bnd_some]
 rfl
theorem zc7 {t:Int->List (Node×Bool)->List Note->Option (Option (Bs×Int)×List (Node×Bool)×List Note)} {p:Bs×Int} {l:List Note} (h:t f.Most (zJf f.Nodes) []=some (some p,m,l)):zC9 fu t f none=some (f,[],p.2):=by
 unfold zC9
 rw [zSu (zAE hr) hfu,bnd_some]
 simp only [kJ,cnd_true]
 rw [h,bnd_some]
 rfl
theorem zTg {t:Int->List (Node×Bool)->List Note->Option (Option (Bs×Int)×List (Node×Bool)×List Note)} {g:List Node} {l:List Note} (h:t f.Most (zJf f.Nodes) []=some (none,zJf g,l)):zC9 fu t f none=some (⟨g,f.Most⟩,l,0):=by
 unfold zC9
 rw [zSu (zAE hr) hfu,bnd_some]
 simp only [kJ,cnd_true]
 rw [h,bnd_some]
 simp only [kU,cnd_false,zLb]
omit hfu in
theorem May.pi {p b:Int} {y:Node} (M:May f n p x y) (G:b = -1\/(b∈y.Kids/\b∉zAR n x)):PI f p b (zAR n x):=by
 refine ⟨hr,fun k i=>?_,M.nodup hr,fun E=>?_,⟨y,M.hy,M.holder,G.imp id And.left,fun F=>?_⟩⟩
 ·obtain ⟨z,hz,q,_⟩:=M.part hr i
  exact ⟨z,hz,q,M.free hr i⟩
 ·rcases G with e | h
  ·subst e
   have:=M.in_ hr E
   unfold InN at this
   omega
  ·exact h.2 E
 ·have D:=M.crowd F
  unfold zGC at D
  rw [M.hy] at D
  simp only [iY,Bool.and_eq_false_iff,decide_eq_false_iff_not] at D
  obtain ⟨J,I⟩:=D
  have i:∀k∈zAR n x,(k != -1&&isB f.Nodes k 1)=true:=fun k i=>by
   obtain ⟨z,hz,q,_⟩:=M.part hr i
   have C:k ≠ -1:=by have:=M.in_ hr i;unfold InN at this;omega
   rw [bne_iff_ne.2 C,iD]
   unfold isB
   rw [hz]
   rcases q with h | h
   ·simp [h]
   ·exfalso
    apply J
    unfold zDv
    refine List.countP_pos_iff.2 ⟨k,i,?_⟩
    rw [bne_iff_ne.2 C,iD]
    unfold isB
    rw [hz];simp [h]
  have E:zDv f.Nodes (-1) (zAR n x) 1=(zAR n x).length:=List.countP_eq_length.2 i
  rw [E] at I
  have j:(zAR n x).length<=1:=by omega
  refine ⟨j,fun k u=>?_⟩
  have e:zAR n x=[k]:=by
   match K:zAR n x,u,j with
   | [a],u,_=>rw [e8.1 u]
   | a::b::t,_,hl=>simp at hl
  have:=M.crowd F
  rwa [e] at this
theorem zRT (n p c:Int):∃r,zEA fu f n p c=some r/\Hand f (if isB f.Nodes n 3=true then 800 else 1) r:=by
 have hs:=zAE hr
 have G:=hs.fit hfu
 have W:∀e,e≠0->zEa fu f n p c=some e->∃r,zEA fu f n p c=some r/\Hand f (if isB f.Nodes n 3=true then 800 else 1) r:=fun e j h=>by
  unfold zEA
  rw [h,bnd_some,zFV,bnd_some,iN j,zWh hr hfu,bnd_some]
  exact ⟨_,rfl,.inl ⟨e,j,rfl⟩⟩
 by_cases u:inB f n=true/\inB f p=true
 ·have hn:InN f.Nodes n:=by have:=u.1;unfold inB at this;exact of_decide_eq_true this
  have T:InN f.Nodes p:=by have:=u.2;unfold inB at this;exact of_decide_eq_true this
  obtain ⟨x,hx⟩:=zAI hn
  obtain ⟨y,hy⟩:=zAI T
  by_cases K:c = -1\/inB f c=true
  ·have E:c = -1\/∃z,idx f.Nodes c=some z:=K.imp id fun h=>by
    unfold inB at h
    exact zAI (of_decide_eq_true h)
   have i:=zbB hfu G hr hx hy E
   generalize q:(c == -1||(match idx f.Nodes c with | some z=>z.Parent==p | none=>false))=cb at i
   by_cases j:zPX f n p c (-1) x y cb=0
   ·have F:cb=true:=by
     cases cb with
     | true=>rfl
     | false =>
      unfold zPX at j
      split at j
      ·cases j
      ·split at j
       ·cases j
       ·rw [iP rfl] at j;cases j
    subst F
    obtain ⟨f1,f2,f3,f4,f5⟩:=zPY j
    have M:May f n p x y:=⟨hx,hy,f1,by rw [<- zMX hs hfu hr hn T];exact f2,f3,f4,f5⟩
    rw [j] at i
    have Q:c = -1\/c∈y.Kids:=by
     rcases E with h | ⟨z,hz⟩
     ·exact .inl h
     ·right
      have S:c ≠ -1:=by have:=zAH hz;omega
      rw [hz] at q
      rw [show (c == -1)=false by simpa using S,e9,beq_iff_eq] at q
      have V:z.Parent ≠ -1:=by rw [q];unfold InN at T;omega
      obtain ⟨y',H⟩:=zGl hr hz V
      have X:=H.hy
      rw [q,hy] at X
      rw [lJ.inj X]
      exact H.mem
    obtain ⟨b,I,J⟩:=zZ2 hr M hs hfu Q i
    obtain ⟨h,l',m1,m2⟩:=zbf (l:=[]) hfu hx (M.pi hr J) (by simp)
    have D:=m1.all hr
    have hlen:=M.len hs
    unfold zEA
    rw [i,bnd_some,zFV,bnd_some,iP rfl]
    rw [zTg hr hfu (g:=h.Nodes) (l:=[]++l') (by
     unfold zG8
     rw [I,bnd_some,m2,bnd_some]),bnd_some]
    refine ⟨_,rfl,.inr ⟨_,h,l',?_,m1,?_⟩⟩
    ·have e3:isB f.Nodes n 3=(x.Kind==3):=by unfold isB;rw [hx]
     rw [e3]
     by_cases C:x.Kind=3
     ·rw [iP C,iP (by simpa using C)];omega
     ·have e4:(zAR n x).length=1:=by unfold zAR;rw [iN C];rfl
      rw [iN C,iN (by simpa using C)];omega
    ·rw [iU,<- D.2.1]
   ·exact W _ j i
  ·refine W 1 (by omega) ?_
   have N:c ≠ -1:=fun e=>K (.inl e)
   have P:inB f c=false:=by cases e:inB f c with
    | false=>rfl
    | true=>exact absurd (.inr e) K
   unfold zEa
   rw [zFQ hfu G hr (by simp),bnd_some,zFQ hfu G hr (by simp),bnd_some,zAe]
   simp only [cK,iQ,u.1,u.2,P,Bool.and_self,iA,cnd_false,jD,jL,cnd_true,iN N]
 ·refine W 1 (by omega) ?_
  unfold zEa
  rw [zFQ hfu G hr (by simp),bnd_some]
  have:([n,p].all (inB f))=false:=by
   simp only [cK,iQ,kO]
   cases e:inB f n&&inB f p with
   | false=>rfl
   | true=>exact absurd (by simpa using e) u
  rw [this];rfl
theorem ze0 (n:Int):zIE fu f n=some (if InN f.Nodes n then none else some ([97,115,107,101,100],1)):=by
 unfold zIE
 rw [zEo hfu ((zAE hr).fit hfu),bnd_some,hr]
 simp only [zFV,bnd_some,iA,cnd_false,zAM]
 by_cases e:n<0
 ·rw [iP e,iN (show ¬InN f.Nodes n by unfold InN;omega)];rfl
 ·rw [iN e]
  by_cases h:n>=(f.Nodes.length:Int)
  ·rw [iP h,iN (show ¬InN f.Nodes n by unfold InN;omega)];rfl
  ·rw [iN h,iP (show InN f.Nodes n by unfold InN;omega)]
theorem zN3 (n:Int):zEB fu f n=some (if InN f.Nodes n then (if zI5 f.Nodes n = -1 then (f,[],6) else (⟨zL1 f.Nodes n,f.Most⟩,zG2 f n,0)) else (f,[],1)):=by
 unfold zEB
 rw [ze0 hr hfu,bnd_some]
 by_cases h:InN f.Nodes n
 ·rw [iP h,iP h]
  obtain ⟨x,hx⟩:=zAI h
  rw [zIq hx]
  by_cases e:x.Parent = -1
  ·rw [iP e,zc7 hr hfu (p:=([111,117,116],6)) (m:=zJf f.Nodes) (l:=[]) (by
    unfold zFh
    rw [zGL hx,bnd_some,zAd,iP e,zFV,bnd_some];rfl),bnd_some]
  ·rw [iN e,zTg hr hfu (g:=zL1 f.Nodes n) (l:=zG2 f n) (by
    unfold zFh
    rw [zGL hx,bnd_some,zAd,iN e,zT1 hr hfu h (by simp),bnd_some];rfl),bnd_some]
 ·rw [iN h,iN h,zWh hr hfu,bnd_some]
theorem zVg (n:Int):∃r,zEB fu f n=some r/\Hand f 1 r:=by
 refine ⟨_,zN3 hr hfu n,?_⟩
 by_cases h:InN f.Nodes n
 ·rw [iP h]
  by_cases e:zI5 f.Nodes n = -1
  ·rw [iP e];exact .inl ⟨6,by omega,rfl⟩
  ·rw [iN e]
   have:=Mv.out (.refl f) h
   exact .inr ⟨1,_,_,cB _,by simpa using this,rfl⟩
 ·rw [iN h];exact .inl ⟨1,by omega,rfl⟩
end
end
section
def zDt (n:Int):List Int->Int
 | [] => -1
 | k::l=>if k≠n then k else zDt n l
theorem zPs {n:Int}:∀{l:List Int},zDt n l = -1\/(zDt n l∈l/\zDt n l≠n)
 | []=>.inl rfl
 | k::l=>by
  unfold zDt
  by_cases h:k≠n
  ·rw [iP h];exact .inr ⟨lH ..,h⟩
  ·rw [iN h]
   exact (zPs (l:=l)).imp id fun h=>⟨lG _ h.1,h.2⟩
theorem zcw {l:List Int} {fu:Nat} (hf:l.length<fu) (E:l.length<=1000000):zEW n l fu 0=some (zDt n l):=by
 have u:∀(j i k:Nat),i+j=l.length->j<k->zEW n l k (i:Int)=some (zDt n (l.drop i)):=by
  intro j
  induction j with
  | zero =>
   intro i k hi C
   obtain ⟨k,rfl⟩:∃q,k=q+1:=⟨k - 1,by omega⟩
   obtain rfl:i=l.length:=by omega
   simp only [zEW]
   rw [zAO (by simp),kK];rfl
  | succ j D =>
   intro i k hi C
   obtain ⟨k,rfl⟩:∃q,k=q+1:=⟨k - 1,by omega⟩
   have h:i<l.length:=by omega
   simp only [zEW]
   rw [zAP (by simpa using h),zAQ h,bnd_some,zAe,zBL (by omega),bnd_some,D (i+1) k (by omega) (by omega),eT h,show zDt n (l[i]::l.drop (i+1))=if l[i]≠n then l[i] else zDt n (l.drop (i+1)) from rfl]
   by_cases e:l[i]=n
   ·rw [iP e,iN (by simpa using e)]
   ·rw [iN e,iP e]
 have:=u l.length 0 fu (by omega) hf
 simpa using this
section
variable {f:Forest} {c p:Int} {z y:Node} (H:Hung f c p z y) (hr:zAG f=true)
include H hr
theorem zZ4 {fu:Nat} (hfu:1000<fu) (n:Int):zIw fu f c n=some (zDt n (y.Kids.drop (y.Kids.idxOf c+1))):=by
 have hs:=zAE hr
 have hl:=hs.kids y (zEp H.hy)
 obtain ⟨f1,e⟩:=zQY H.mem
 unfold zIw
 rw [H.hz,bnd_some,H.par,H.hy,bnd_some,zVn (by omega) (by omega),bnd_some,f1,zBL (by omega),bnd_some]
 rw [show piece y.Kids ((y.Kids.idxOf c+1:Nat):Int) (y.Kids.length:Int)=some (y.Kids.drop (y.Kids.idxOf c+1)) from ?_,bnd_some,zcw (by simp;omega) (by simp;omega)]
 unfold piece
 rw [iP ⟨by omega,by omega,by omega⟩]
 congr 1
 rw [eO,eO,kH (by simp)]
theorem zZ3 (n:Int):zDt n (y.Kids.drop (y.Kids.idxOf c+1)) = -1\/(zDt n (y.Kids.drop (y.Kids.idxOf c+1))∈(zNv y c).Kids/\zDt n (y.Kids.drop (y.Kids.idxOf c+1))∈y.Kids/\zDt n (y.Kids.drop (y.Kids.idxOf c+1))≠n):=by
 rcases zPs (n:=n) (l:=y.Kids.drop (y.Kids.idxOf c+1)) with h | ⟨j,E⟩
 ·exact .inl h
 ·right
  have q:y.Kids.Nodup:=by
   have:=(zBD hr).nod p
   rwa [zFq H.hy] at this
  have C:=List.mem_of_mem_drop j
  refine ⟨?_,C,E⟩
  unfold zNv
  simp only [iJ,bne_iff_ne]
  refine ⟨C,fun e=>?_⟩
  rw [e] at j
  obtain ⟨i,hi,u⟩:=iW j
  rw [List.getElem_drop] at u
  have:=List.idxOf_lt_length_of_mem H.mem
  simp only [iK] at hi
  have D:y.Kids[y.Kids.idxOf c]=c:=List.getElem_idxOf this
  exact List.pairwise_iff_getElem.1 q (y.Kids.idxOf c) (y.Kids.idxOf c+1+i) this (by omega) (by omega) (D.trans u.symm)
theorem zeA:May (zLn f c p z y) c p (zMS z) (zNv y c):=by
 have S:=zX9 H hr
 refine ⟨zOm H,zG0 H,(show zGI y.Kind=true from zWt H hr),?_,by simp only [zMS];omega,by simp only [zMS];omega,fun K=>?_⟩
 ·rw [zYB H hr];exact zTp H hr
 ·have G:=(zAa hr).2.2.1
  have D:y.Kind=0:=K
  have i:=zBc G H.hy
  unfold zFd zEO at i
  simp only [lM,lR,dD,bne_iff_ne,decide_eq_true_eq] at i
  have e:=i.2.2.2.1.2.1 c H.mem
  unfold zOe at e
  rw [H.hz] at e
  simp only [lM,dD,beq_iff_eq,bne_iff_ne] at e
  have E:z.Kind=1:=by
   rcases e.2.2 with h | h
   ·exact h
   ·exact absurd D h.2
  have q:zBE f.Nodes y.Kids<=1:=by
   rcases i.2.2.2.1.2.2.2 with h | h
   ·exact absurd D h
   ·exact h
  have J:zAR c (zMS z)=[c]:=by
   unfold zAR
   rw [iN (show ¬(zMS z).Kind=3 by simp only [zMS];omega)]
  rw [J]
  have C:isB f.Nodes c 1=true:=by unfold isB;rw [H.hz];simp [E]
  have F:isB f.Nodes c 2=false:=by unfold isB;rw [H.hz];simp [E]
  have u:c ≠ -1:=by have:=zAH H.hz;omega
  unfold zGC
  rw [zG0 H]
  have Q:zDv (zLn f c p z y).Nodes (-1) [c] 2=0:=by
   unfold zDv;simp [zNx H,F]
  have P:zDv (zLn f c p z y).Nodes (-1) [c] 1=1:=by
   unfold zDv;simp [zNx H,C,u]
  have N:zDv f.Nodes c y.Kids 1=0:=by
   have M:y.Kids.Nodup:=by
    have:=(zBD hr).nod p
    rwa [zFq H.hy] at this
   have I:y.Kids.Perm (c::y.Kids.erase c):=List.perm_cons_erase H.mem
   unfold zBE at q
   rw [I.countP_eq,dG,C] at q
   simp only [↓reduceIte] at q
   unfold zDv
   rw [I.countP_eq,dG]
   simp only [bne_self_eq_false,jD,dL,↓reduceIte,Nat.add_zero]
   refine Nat.le_zero.1 (eM (List.countP_mono_left fun a _ h=>?_) (show List.countP (fun k=>isB f.Nodes k 1) (y.Kids.erase c)<=0 by omega))
   simp only [lM] at h
   exact h.2
  have mk:zDv (zLn f c p z y).Nodes (-1) (zNv y c).Kids 1=0:=by rw [show (zNv y c).Kids=y.Kids.filter (fun j=>j != c) from rfl,zVU H,N]
  rw [Q,P]
  simp only [mk]
  rfl
end
section
variable {fu:Nat} {f:Forest} (hr:zAG f=true) (hfu:1000<fu)
include hr hfu
theorem zVi (n p c:Int):∃r,zEV fu f n p c=some r/\Hand f 801 r:=by
 have hs:=zAE hr
 have T:=hs.fit hfu
 have no:∀e,e≠0->zEI fu f n p c=some e->∃r,zEV fu f n p c=some r/\Hand f 801 r:=fun e j h=>by
  unfold zEV
  rw [h,bnd_some,zFV,bnd_some,iN j,zWh hr hfu,bnd_some]
  exact ⟨_,rfl,.inl ⟨e,j,rfl⟩⟩
 by_cases K:inB f n=true/\inB f p=true
 ·have X:InN f.Nodes n:=by have:=K.1;unfold inB at this;exact of_decide_eq_true this
  have hp:InN f.Nodes p:=by have:=K.2;unfold inB at this;exact of_decide_eq_true this
  obtain ⟨x,hx⟩:=zAI X
  obtain ⟨y,hy⟩:=zAI hp
  by_cases P:c = -1
  ·subst P
   obtain ⟨r,g1,g2⟩:=zby hfu T hr hx hy
   exact no r g2 g1
  ·by_cases hc:inB f c=true
   ·have u:InN f.Nodes c:=by unfold inB at hc;exact of_decide_eq_true hc
    obtain ⟨z,hz⟩:=zAI u
    have J:=zgm hfu T hr hx hy hz
    by_cases j:zPX f n p c c x y (z.Parent==p)=0
    ·have i:z.Parent=p:=by
      cases e:(z.Parent==p) with
      | true=>exact beq_iff_eq.1 e
      | false =>
       rw [e] at j
       unfold zPX at j
       split at j
       ·cases j
       ·split at j
        ·cases j
        ·rw [iP rfl] at j;cases j
     rw [j] at J
     rw [show (z.Parent==p)=true from beq_iff_eq.2 i] at j
     have hp0:z.Parent ≠ -1:=by rw [i];unfold InN at hp;omega
     obtain ⟨y',H⟩:=zGl hr hz hp0
     rw [i] at H
     have e1:=H.hy
     rw [hy] at e1
     obtain rfl:=lJ.inj e1
     have S:=zOn H hr
     have I:=zVV H hs
     have D:=zRj f c p z y
     obtain ⟨x',q,M,C⟩:∃x',idx (zLn f c p z y).Nodes n=some x'/\May (zLn f c p z y) n p x' (zNv y c)/\zAR n x'=zAR n x:=by
      by_cases F:n=c
      ·subst F
       rw [hx] at hz
       obtain rfl:=lJ.inj hz
       exact ⟨_,zOm H,zeA H hr,rfl⟩
      ·obtain ⟨_,f2,_⟩:=zPY j
       have E:=zZS H hr hs hfu hx F f2
       rw [j] at E
       have G:n≠p:=fun e=>by
        subst e
        rw [zMX hs hfu hr X X] at f2
        have:=zKy.2 ((zAN hr).wayU_self X)
        rw [f2] at this
        cases this
       have q:idx (zLn f c p z y).Nodes n=some x:=(zMW H F G).trans hx
       have W:=zbB (child := -1) hfu (I.fit hfu) S q (zG0 H) (.inl rfl)
       rw [E] at W
       have Q:=(lJ.inj W).symm
       simp only [beq_self_eq_true,Bool.true_or] at Q
       obtain ⟨k1,k2,k3,k4,k5⟩:=zPY Q
       exact ⟨x,q,⟨q,zG0 H,k1,by rw [<- zMX I hfu S (by unfold InN;rw [D];exact X) (by unfold InN;rw [D];exact hp)];exact k2,k3,k4,k5⟩,rfl⟩
     have G:=M.np S
     have hb:=zZ3 H hr n
     have hb2:zDt n (y.Kids.drop (y.Kids.idxOf c+1)) = -1\/(zDt n (y.Kids.drop (y.Kids.idxOf c+1))∈(zNv y c).Kids/\zDt n (y.Kids.drop (y.Kids.idxOf c+1))∉zAR n x'):=hb.imp id fun ⟨g1,g2,g3⟩=>⟨g1,fun V=>by
      rw [C] at V
      unfold zAR at V
      split at V
      ·obtain ⟨w,hw⟩:=zJA (zAa hr).2.2.1 hy _ g2
       exact G ((zNu hr hx hw V).symm.trans (zNu hr hy hw g2))
      ·exact g3 (e8.1 V)⟩
     obtain ⟨h,l',m1,m2⟩:=zbf (l:=zG2 f c) hfu q (M.pi S hb2) (by have:=zJe hr u;omega)
     have hq:zL1 f.Nodes c=(zLn f c p z y).Nodes:=by
      have H':=H
      rw [<- i] at H'
      have:=zMV H' hp0
      rw [this,i]
     have N:=m1.all S
     have hplen:=M.len I
     unfold zEV
     rw [J,bnd_some,zFV,bnd_some,iP rfl]
     rw [zTg hr hfu (g:=h.Nodes) (l:=zG2 f c++l') (by
      unfold zGZ
      rw [zZ4 H hr hfu,bnd_some,zT1 hr hfu u (by simp),bnd_some,hq,iU]
      have m3:zEj fu n p (zDt n (y.Kids.drop (y.Kids.idxOf c+1))) f.Most (zJf (zLn f c p z y).Nodes) (zG2 f c)=some (zJf h.Nodes,zG2 f c++l'):=m2
      simp only [m3,bnd_some]),bnd_some]
     have m0:Mv 1 f (zLn f c p z y) (zG2 f c):=by
      have:=Mv.out (.refl f) u
      rw [iU,hq] at this
      exact this
     refine ⟨_,rfl,.inr ⟨_,h,_,?_,m0.trans m1,?_⟩⟩
     ·split<;>omega
     ·have e2:h.Most=f.Most:=N.2.1
      rw [<- e2]
    ·exact no _ j J
   ·refine no 1 (by omega) ?_
    have hc2:inB f c=false:=by cases e:inB f c with
     | false=>rfl
     | true=>exact absurd e hc
    unfold zEI
    rw [zFQ hfu T hr (by simp),bnd_some,zFQ hfu T hr (by simp),bnd_some,zAe]
    simp only [cK,iQ,K.1,K.2,hc2,Bool.and_self,iA,cnd_false,jD,jL,cnd_true,iN P]
 ·refine no 1 (by omega) ?_
  unfold zEI
  rw [zFQ hfu T hr (by simp),bnd_some]
  have:([n,p].all (inB f))=false:=by
   simp only [cK,iQ,kO]
   cases e:inB f n&&inB f p with
   | false=>rfl
   | true=>exact absurd (by simpa using e) K
  rw [this];rfl
end
end
section
def zZk (f:Forest) (r:Forest×List Note×Int):Prop:=(∃e,e≠0/\r=(f,[],e))\/∃g l,zAG g=true/\g.Most=f.Most/\g.Nodes.map bare=f.Nodes.map bare/\l.length<=1/\(∀y∈l,y.Kind=4)/\r=(g,l,0)
theorem zWc {fu:Nat} {s:Bs} {l:List Attr} (hfu:1000<fu) (hs:s.length<fu) (hs2:s.length<=1000000) (hx:idx ns n=some x) (i:notes.length<=1000000) :
  ∃e,zC1 fu n s l (zJf ns) notes=some (zJf (ns.set n.toNat (zI6 x l)),notes++e)/\e.length<=1/\∀y∈e,y.Kind=4:=by
 unfold zC1
 rw [zRf hs hs2,bnd_some,zGL hx,bnd_some,zO6 (by omega),bnd_some,zO6 (by omega),bnd_some,bnd_some]
 have h:(⟨x.Kind,x.Name,x.Is,x.Data,l,x.Parent,x.Kids,x.Host,x.Under,x.Doc⟩:Node)=zI6 x l:=rfl
 simp only [h,zMw]
 rw [zAc (by simp;omega),bnd_some]
 cases (zcZ x.Attrs s).2 with
 | true=>exact ⟨_,rfl,by simp,by simp⟩
 | false =>
  rw [cnd_false]
  cases (zcZ l s).2 with
  | true=>exact ⟨_,rfl,by simp,by simp⟩
  | false=>exact ⟨[],by rw [gI];rfl,by simp,by simp⟩
section
variable {fu:Nat} {f:Forest} (hr:zAG f=true) (hfu:1000<fu)
include hr hfu
theorem zXi (t:List (Node×Bool)->List Note->Option (Option (Bs×Int)×List (Node×Bool)×List Note)) (p:Bs×Int):zBM fu t f (some p)=some (f,[],p.2):=by
 unfold zBM
 rw [zSu (zAE hr) hfu,bnd_some]
 rfl
theorem zaT {t:List (Node×Bool)->List Note->Option (Option (Bs×Int)×List (Node×Bool)×List Note)} {p:Bs×Int} {l:List Note} (h:t (zJf f.Nodes) []=some (some p,m,l)):zBM fu t f none=some (f,[],p.2):=by
 unfold zBM
 rw [zSu (zAE hr) hfu,bnd_some]
 simp only [kJ,cnd_true]
 rw [h,bnd_some]
 rfl
theorem zU7 {t:List (Node×Bool)->List Note->Option (Option (Bs×Int)×List (Node×Bool)×List Note)} {g:List Node} {l:List Note} (h:t (zJf f.Nodes) []=some (none,zJf g,l)):zBM fu t f none=some (⟨g,f.Most⟩,l,0):=by
 unfold zBM
 rw [zSu (zAE hr) hfu,bnd_some]
 simp only [kJ,cnd_true]
 rw [h,bnd_some]
 simp only [kU,cnd_false,zLb]
theorem elem6 (n:Int):zGf fu f n=some (if InN f.Nodes n then (if isB f.Nodes n 1=true then none else some ([101,108,101,109],5)) else some ([97,115,107,101,100],1)):=by
 unfold zGf
 rw [ze0 hr hfu,bnd_some]
 by_cases h:InN f.Nodes n
 ·rw [iP h,iP h]
  obtain ⟨x,hx⟩:=zAI h
  simp only [kJ,cnd_true]
  rw [hx,bnd_some,zAe,zFV,bnd_some]
  have e:isB f.Nodes n 1=(x.Kind==1):=by unfold isB;rw [hx]
  by_cases i:x.Kind=1
  ·rw [iP i,e,i];rfl
  ·rw [iN i,e,show (x.Kind==1)=false by simpa using i]
   rfl
 ·rw [iN h,iN h];rfl
theorem zRS (n:Int) (t:List (Node×Bool)->List Note->Option (Option (Bs×Int)×List (Node×Bool)×List Note))
  (E:∀x,idx f.Nodes n=some x->x.Kind=1->(∃p m l,(p:Bs×Int).2≠0/\t (zJf f.Nodes) []=some (some p,m,l))\/t (zJf f.Nodes) []=some (none,zJf f.Nodes,[])\/∃a l,zGk a=true/\l.length<=1/\(∀y∈l,(y:Note).Kind=4)/\t (zJf f.Nodes) []=some (none,zJf (f.Nodes.set n.toNat (zI6 x a)),l)) :
  ∃r,(bnd (zGf fu f n) fun F=>bnd (zBM fu t f F) fun u=>some (u.1,u.2.1,u.2.2))=some r/\zZk f r:=by
 rw [elem6 hr hfu,bnd_some]
 by_cases h:InN f.Nodes n
 ·rw [iP h]
  obtain ⟨x,hx⟩:=zAI h
  by_cases j:x.Kind=1
  ·rw [iP (by unfold isB;rw [hx];simp [j])]
   rcases E x hx j with ⟨p,m,l,q,i⟩ | i | ⟨a,l,q,i,C,D⟩
   ·rw [zaT hr hfu i,bnd_some];exact ⟨_,rfl,.inl ⟨_,q,rfl⟩⟩
   ·rw [zU7 hr hfu i,bnd_some];exact ⟨_,rfl,.inr ⟨f,[],hr,rfl,rfl,by simp,by simp,rfl⟩⟩
   ·rw [zU7 hr hfu D,bnd_some]
    refine ⟨_,rfl,.inr ⟨_,_,zWQ hr hx j q,rfl,?_,i,C,rfl⟩⟩
    show (f.Nodes.set n.toNat (zI6 x a)).map bare=_
    rw [List.map_set]
    have hi:n.toNat<f.Nodes.length:=by unfold InN at h;omega
    have e:bare (zI6 x a)=(f.Nodes.map bare)[n.toNat]'(by simpa using hi):=by
     have:idx f.Nodes n=some f.Nodes[n.toNat]:=by
      have:=zAQ hi
      rwa [show ((n.toNat:Nat):Int)=n by unfold InN at h;omega] at this
     rw [hx] at this
     rw [List.getElem_map,<- lJ.inj this]
     rfl
    rw [e];exact List.set_getElem_self _
  ·rw [iN (by unfold isB;rw [hx];simp [j]),zXi hr hfu,bnd_some]
   exact ⟨_,rfl,.inl ⟨5,by omega,rfl⟩⟩
 ·rw [iN h,zXi hr hfu,bnd_some]
  exact ⟨_,rfl,.inl ⟨1,by omega,rfl⟩⟩
variable {s:Bs} (hs:s.length<fu) (hs2:s.length<=1000000)
include hs hs2
theorem zeB (n:Int) (v:Bs):∃r,zKX fu f n s v=some r/\zZk f r:=by
 unfold zKX
 refine zRS hr hfu n _ fun x hx q=>?_
 have u:=zQS (zWO hr hx q)
 unfold zJ0
 rw [zGL hx,bnd_some,zZy (by omega) (by simp only;omega),bnd_some,zAe]
 simp only
 by_cases e:(zYn x.Attrs s v).2=0
 ·rw [iP e]
  obtain ⟨C,h,i,j⟩:=zWc (n:=n) (s:=s) (l:=(zYn x.Attrs s v).1) (notes:=[]) hfu hs hs2 hx (by simp)
  rw [h,bnd_some]
  exact .inr (.inr ⟨_,_,zSR e,i,j,rfl⟩)
 ·rw [iN e,zFV,bnd_some,iN e]
  exact .inl ⟨_,_,_,e,rfl⟩
theorem zZX (n:Int):∃r,zID fu f n s=some r/\zZk f r:=by
 unfold zID
 refine zRS hr hfu n _ fun x hx q=>?_
 have e:=zWO hr hx q
 have u:=zQS e
 unfold zH2
 rw [zSf (by omega),bnd_some,zAe,zGL hx,bnd_some,zZv (by omega) (by simp only;omega),bnd_some]
 simp only
 cases C:zFb s with
 | false =>
  simp only [dL,↓reduceIte]
  rw [iN (by omega),zFV,bnd_some,iN (by omega)]
  exact .inl ⟨_,_,_,by simp only;omega,rfl⟩
 | true =>
  simp only [↓reduceIte]
  obtain ⟨D,h,i,j⟩:=zWc (n:=n) (s:=s) (l:=(zfE x.Attrs s).1) (notes:=[]) hfu hs hs2 hx (by simp)
  rw [h,bnd_some]
  exact .inr (.inr ⟨_,_,zSQ e,i,j,rfl⟩)
theorem zXL (n k:Int):∃r,zHA fu f n s k=some r/\zZk f r:=by
 unfold zHA
 refine zRS hr hfu n _ fun x hx u=>?_
 have h:=zWO hr hx u
 have C:=zQS h
 unfold zG9
 rw [zGL hx,bnd_some,zO6 (by omega),bnd_some,bnd_some,zfJ (by omega) (by simp only;omega),bnd_some,zAe]
 simp only
 by_cases e:(zef x.Attrs s k).2.2=0
 ·rw [iP e]
  cases (zcZ x.Attrs s).2==(zef x.Attrs s k).2.1 with
  | true=>exact .inr (.inl rfl)
  | false =>
   obtain ⟨D,i,j,q⟩:=zWc (n:=n) (s:=s) (l:=(zef x.Attrs s k).1) (notes:=[]) hfu hs hs2 hx (by simp)
   rw [jL,cnd_true,i,bnd_some]
   exact .inr (.inr ⟨_,_,zYo h e,j,q,rfl⟩)
 ·rw [iN e,zFV,bnd_some,iN e]
  exact .inl ⟨_,_,_,e,rfl⟩
end
end
section
section
variable {fu:Nat} {f:Forest} (hfu:1000<fu)
include hfu
theorem zMd {l:List Int} (hr:zAG f=true) (hl:l.length<=100):zEs fu f l=some (l.all (inB f)):=by
 unfold zEs
 rw [zEo hfu ((zAE hr).fit hfu),bnd_some,hr,cnd_true,zFp (p:=fun n => !(inB f n)) (fun n _=>by unfold zFT;exact zT4 f n) (by omega) (by omega),bnd_some,zHq]
theorem zb2 (hr:zAG f=true) (d:Int):zKe fu f d=some (isB f.Nodes d 0):=by
 unfold zKe
 rw [zMd hfu hr (by simp),bnd_some]
 simp only [cK,iQ,kO]
 unfold isB
 cases e:inB f d with
 | false =>
  have:¬(0<=d/\d<f.Nodes.length):=fun h=>by
   have:=zNY (f:=f) (n:=d) h
   rw [e] at this;cases this
  rw [zCW this];rfl
 | true =>
  unfold inB at e
  obtain ⟨x,hx⟩:=zAI (of_decide_eq_true e)
  rw [hx];rfl
end
structure RI (f:Forest) (rows:List (Node×Bool)):Prop where
 base:rows.take f.Nodes.length=f.Nodes.map fun x=>(x,false)
 len:f.Nodes.length<=rows.length
 new:∀(i:Nat) (h:i<rows.length),f.Nodes.length<=i->rows[i].2=true
 kids:∀r∈rows,r.1.Kids.length<=rows.length+400
def JF (f:Forest) (rows:List (Node×Bool)) (j:zBb):Prop:=InN f.Nodes j.n/\(j.under = -1\/∃u:Nat,j.under=(u:Int)/\f.Nodes.length<=u/\u<rows.length)
theorem JF.mono {f:Forest} {e:List (Node×Bool)} {j:zBb} (h:JF f rows j) (hl:rows.length<=e.length):JF f e j :=
 ⟨h.1,h.2.imp id fun ⟨u,i,q,C⟩=>⟨u,i,q,by omega⟩⟩
theorem RI.old {f:Forest} (h:RI f rows) {n:Int} {x:Node} (hx:idx f.Nodes n=some x):idx rows n=some (x,false):=by
 have hr:=zAH hx
 obtain ⟨i,rfl⟩:∃i:Nat,n=(i:Int):=⟨n.toNat,by omega⟩
 have hi:i<f.Nodes.length:=by omega
 have e:i<rows.length:=by have:=h.len;omega
 rw [zAQ hi] at hx
 rw [zAQ e]
 have:=congrArg (fun l=>l[i]?) h.base
 simp only [List.getElem?_take,iP hi,lK,lC hi,lC e,lW] at this
 rw [lJ.inj this,lJ.inj hx]
theorem RI.add {f:Forest} (h:RI f rows) {y:Node} (hy:y.Kids=[]):RI f (rows++[(y,true)]):=by
 have hl:=h.len
 refine ⟨?_,by simp;omega,fun i hi j=>?_,fun r hr=>?_⟩
 ·rw [iV hl];exact h.base
 ·rw [List.getElem_append]
  split
  ·rename_i e;exact h.new i e j
  ·simp
 ·rw [cA,e8] at hr
  simp only [eR,cP,eK]
  rcases hr with hr | rfl
  ·have:=h.kids r hr;omega
  ·rw [hy];simp
theorem RI.kid {f:Forest} {u:Nat} {e:Node} (h:RI f rows) (C:f.Nodes.length<=u) (j:e.Kids.length<=rows.length+400):RI f (rows.set u (e,true)):=by
 refine ⟨?_,by simpa using h.len,fun i hi q=>?_,fun r hr=>?_⟩
 ·rw [kV C];exact h.base
 ·rw [List.getElem_set]
  split
  ·rfl
  ·exact h.new i (by simpa using hi) q
 ·rw [List.length_set]
  rcases dT hr with hr | rfl
  ·exact h.kids r hr
  ·exact j
theorem zaJ {fu:Nat} {f:Forest} {j:zBb} (hr:zAG f=true) (h:RI f rows) (M:JF f rows j) (hl:rows.length<=100000) :
  ∃d e,zEe fu j rows=some ((rows.length:Int),d,e)/\e.length=rows.length+1/\RI f e:=by
 obtain ⟨x,hx⟩:=zAI M.1
 have hs:=zAE hr
 have P:=hs.attrs x (zEp hx)
 have E:∀F G,∃d e,zCE fu j rows (x,false) x.Attrs (F,G)=some ((rows.length:Int),d,e)/\e.length=rows.length+1/\RI f e:=fun F G=>by
  have i:=h.add (y:=⟨F,x.Name,x.Is,x.Data,x.Attrs,j.under,[],-1,-1,G⟩) rfl
  unfold zCE zHo
  simp only
  rw [zAc (by omega),bnd_some,zKD (by simp only [lo,Go.Pw.hi,eR,cP,eK];omega),bnd_some,bnd_some,zAe]
  have N:(((rows++[((⟨F,x.Name,x.Is,x.Data,x.Attrs,j.under,[],-1,-1,G⟩:Node),true)]).length:Nat):Int) - 1=(rows.length:Int):=by simp
  rw [N]
  rcases M.2 with I | ⟨u,I,J,K⟩
  ·rw [iP I]
   exact ⟨_,_,rfl,by simp,i⟩
  ·have C:u<(rows++[((⟨F,x.Name,x.Is,x.Data,x.Attrs,j.under,[],-1,-1,G⟩:Node),true)]).length:=by simp;omega
   have D:=i.new u C J
   have q:=i.kids _ (gC C)
   rw [iN (by rw [I];omega),I,zAQ (by rw [<- I];exact C),bnd_some]
   simp only [I] at D q C i ⊢
   rw [D,show zSL true=some () from rfl,bnd_some]
   simp only [eR,cP,eK] at q
   have Q:(rows++[((⟨F,x.Name,x.Is,x.Data,x.Attrs,(u:Int),[],-1,-1,G⟩:Node),true)])[u].1.Kids.length<=rows.length+400:=by
    rw [List.getElem_append_left K]
    exact h.kids _ (gC K)
   rw [zAc (by simp only [cP,eK];omega),bnd_some,bnd_some,eO]
   refine ⟨_,_,rfl,by simp,i.kid J ?_⟩
   simp only [eR,cP,eK]
   omega
 unfold zEe
 rw [h.old hx,bnd_some,show zPo (x,false).2=some () from rfl,bnd_some,zJ6 (by simp only;omega),bnd_some,zAd,zAd]
 simp only
 split
 ·exact E _ _
 ·split
  ·exact E _ _
  ·exact E _ _
theorem run_l2 {h:Int×Int×List (Node×Bool)} {e:Node×Bool} {rc:List zBb×List (Node×Bool)->Option (Int×List (Node×Bool))} (j:e.1.Kids.length<=1000000):∀(k:Nat) (l:List zBb),k<=e.1.Kids.length->l.length+k<=10000000 ->
  zC3 h e rc k l=rc (l++((e.1.Kids.take k).reverse.map fun c=>⟨c,h.2.1,h.1⟩),h.2.2):=by
 intro k
 induction k with
 | zero=>intro l _ _;simp [zC3]
 | succ k q =>
  intro l j hl
  have i:k<e.1.Kids.length:=by omega
  simp only [zC3]
  rw [lC i,bnd_some,zAc (by simp only [cP,eK];omega),bnd_some,q _ (by omega) (by simp only [eR,cP,eK];omega),iE i,List.reverse_append,gG,eS]
  rfl
def work (f:Forest) (e:List zBb):Nat:=(e.map fun j=>(zKT f.Nodes j.n).length).sum
theorem zeE (ns:List Node) (L:List Int):(L.flatMap (zKT ns)).length=(L.map fun k=>(zKT ns k).length).sum:=by
 rw [List.length_flatMap]
theorem run_l1 {fu:Nat} {f:Forest} {deep:Bool} {l4:List (Node×Bool)} (hr:zAG f=true):∀(K:Nat) (e:List zBb) (rows:List (Node×Bool)),RI f rows->(∀j∈e,JF f rows j)->work f e<K->rows.length+work f e<=50000->e.length<=50000 ->
  ∃h,zC2 fu deep l4 K (e,rows)=some ((l4.length:Int),h)/\RI f h/\h.length<=rows.length+work f e:=by
 have T:=zBD hr
 have hs:=zAE hr
 intro K
 induction K with
 | zero=>intro e rows _ _ hw;omega
 | succ K ih =>
  intro e rows hR P hw hb J
  simp only [zC2]
  rcases List.eq_nil_or_concat e with rfl | ⟨u,j,rfl⟩
  ·rw [zAO (by simp)]
   exact ⟨rows,rfl,hR,by omega⟩
  ·rw [List.concat_eq_append] at *
   have S:=P j (by simp)
   obtain ⟨x,hx⟩:=zAI S.1
   have D:work f (u++[j])=work f u+(1+((zKr f.Nodes j.n).map fun k=>(zKT f.Nodes k).length).sum):=by
    unfold work
    rw [gG,kW,lT,List.map_nil,kQ,List.sum_nil,T.all_eq S.1,cP,zeE]
    omega
   have E:((u++[j]).length:Int) - 1=(u.length:Int):=by simp
   simp only [eR,cP,eK] at J
   rw [zAP (by simp),E,zKD (by simp only [lo,Go.Pw.hi];omega),bnd_some,zNt,cC (cB _),Nat.sub_self,List.getElem?_cons_zero,bnd_some,bnd_some]
   rw [show piece (u++[j]) 0 (u.length:Int)=some u from ?_,bnd_some]
   ·obtain ⟨d,h,h1,h2,Q⟩:=zaJ (fu:=fu) hr hR S (by omega)
    rw [h1,bnd_some]
    cases deep with
    | false=>exact ⟨h,rfl,Q,by rw [D];omega⟩
    | true =>
     have V:=hs.kids x (zEp hx)
     have C:zKr f.Nodes j.n=x.Kids:=zFq hx
     have i:∀k∈x.Kids,1<=(zKT f.Nodes k).length:=fun k M=>by
      have F:=(T.kid j.n k (by rw [C];exact M)).2.1
      have:=T.all_self F
      exact kX this
     have W:x.Kids.length<=(x.Kids.map fun k=>(zKT f.Nodes k).length).sum:=by
      clear D C V hx
      revert i
      generalize x.Kids=L
      intro i
      induction L with
      | nil=>simp
      | cons a L G =>
       have:=G fun k M=>i k (lG _ M)
       have:=i a (lH ..)
       simp only [cP,lT,kQ]
       omega
     have hjs:u.length<=work f u:=by
      clear D E J
      have:∀N∈u,1<=(zKT f.Nodes N.n).length:=fun N q=>kX (T.all_self (P N (by simp [q])).1)
      unfold work
      clear P hw hb
      revert this
      generalize u=L
      intro i
      induction L with
      | nil=>simp
      | cons a L G =>
       have:=G fun k M=>i k (lG _ M)
       have:=i a (lH ..)
       simp only [cP,lT,kQ]
       omega
     rw [C] at D
     simp only [iA,cnd_false]
     rw [Q.old hx,bnd_some,show zPo (x,false).2=some () from rfl,bnd_some,run_l2 (by simp only;omega) _ _ (cB _) (by simp only;omega),iI]
     have X:work f (u++x.Kids.reverse.map fun c=>⟨c,d,(rows.length:Int)⟩)=work f u+(x.Kids.map fun k=>(zKT f.Nodes k).length).sum:=by
      unfold work
      rw [gG,kW,List.map_map]
      congr 1
      rw [show ((fun j:zBb=>(zKT f.Nodes j.n).length) ∘ fun c=>(⟨c,d,(rows.length:Int)⟩:zBb))=fun k=>(zKT f.Nodes k).length from rfl,List.map_reverse,List.sum_reverse]
     obtain ⟨I,g1,g2,g3⟩:=ih (u++x.Kids.reverse.map fun c=>⟨c,d,(rows.length:Int)⟩) h Q (fun N q=>by
      rw [cA] at q
      rcases q with q | q
      ·exact (P N (by simp [q])).mono (by omega)
      ·obtain ⟨c,hc,rfl⟩:=lE.1 q
       have F:=(T.kid j.n c (by rw [C];exact List.mem_reverse.1 hc)).2.1
       exact ⟨F,.inr ⟨rows.length,rfl,hR.len,by omega⟩⟩) (by omega) (by omega) (by simp only [eR,lL,List.length_reverse];omega)
     exact ⟨I,g1,g2,by omega⟩
   ·unfold piece
    rw [iP ⟨by omega,by omega,by simp;omega⟩]
    simp
def zci (f:Forest) (r:Forest×Int×Int):Prop:=(∃e,e≠0/\r=(f,-1,e))\/∃ns,ns.take f.Nodes.length=f.Nodes/\f.Nodes.length<=ns.length/\ns.length<=1000/\(∀x∈ns,x.Kids.length<=2000)/\r=(⟨ns,f.Most⟩,(f.Nodes.length:Int),0)
theorem RI.first {f:Forest} (hr:zAG f=true):RI f (f.Nodes.map fun x=>(x,false)):=by
 have hs:=zAE hr
 refine ⟨?_,by simp,fun i hi h=>?_,fun r e=>?_⟩
 ·rw [kH (by simp)]
 ·simp at hi;omega
 ·obtain ⟨x,hx,rfl⟩:=lE.1 e
  have:=hs.kids x hx
  simp only;omega
theorem zc0 {fu:Nat} {f:Forest} (hr:zAG f=true) (hfu:1000<fu) (n d:Int) (deep:Bool) (h:InN f.Nodes n):∃e,zHp fu ⟨n,d,-1⟩ deep (f.Nodes.map fun x=>(x,false))=some ((f.Nodes.length:Int),e)/\RI f e/\e.length<=800:=by
 have hs:=zAE hr
 have q:=hs.few
 have T:=zBD hr
 have D:=T.all_len h
 have hw:work f [⟨n,d,-1⟩]=(zKT f.Nodes n).length:=by simp [work]
 have hl:(f.Nodes.map fun x=>(x,false)).length=f.Nodes.length:=by simp
 obtain ⟨e,i,u,C⟩:=run_l1 (fu:=fu) (deep:=deep) (l4:=f.Nodes.map fun x=>(x,false)) hr fu [⟨n,d,-1⟩] (f.Nodes.map fun x=>(x,false)) (RI.first hr) (fun j E=>by rw [e8.1 E];exact ⟨h,.inl rfl⟩) (by rw [hw];omega) (by rw [hw,hl];omega) (by rw [List.length_singleton];omega)
 rw [hl] at i
 rw [hw,hl] at C
 exact ⟨e,i,u,by omega⟩
theorem zfe {fu:Nat} {f:Forest} (hr:zAG f=true) (hfu:1000<fu) (n d:Int) (deep:Bool) (i:InN f.Nodes n) (many:Int) (E:0<=many) (F:many<=400):∃r,zFm fu f n d deep many=some r/\zci f r:=by
 have hs:=zAE hr
 have q:=hs.few
 unfold zFm
 rw [zKD (by simp only [lo,Go.Pw.hi];omega),bnd_some,zAM]
 by_cases u:(f.Nodes.length:Int)+many>f.Most
 ·rw [iP u];exact ⟨_,rfl,.inl ⟨8,by omega,rfl⟩⟩
 ·rw [iN u,zJb (by omega),bnd_some]
  obtain ⟨e,C,h,D⟩:=zc0 hr hfu n d deep i
  rw [C,bnd_some]
  refine ⟨_,rfl,.inr ⟨e.map Prod.fst,?_,?_,?_,fun x hx=>?_,rfl⟩⟩
  ·rw [<- List.map_take,h.base,List.map_map]
   exact List.map_id _
  ·rw [lL];exact h.len
  ·rw [lL];omega
  ·obtain ⟨r,j,rfl⟩:=lE.1 hx
   have:=h.kids r j
   omega
theorem zaK {fu:Nat} {f:Forest} (hr:zAG f=true) (hfu:1000<fu) (n d:Int) (deep:Bool) (e:InN f.Nodes n):∃r,(cnd deep (bnd (zET fu f n) fun q=>(zFm fu f n d deep) (q.length:Int)) ((zFm fu f n d deep) 1))=some r/\zci f r:=by
 have j:=(zBD hr).all_len e
 have i:=(zAE hr).few
 rw [zTT (zAE hr) hfu hr e,bnd_some]
 have h:=zfe hr hfu n d deep e
 cases deep with
 | false=>rw [cnd_false];exact h 1 (by omega) (by omega)
 | true=>rw [cnd_true];exact h _ (by omega) (by omega)
theorem zaL {fu:Nat} {f:Forest} (hr:zAG f=true) (hfu:1000<fu) (n d:Int) (deep:Bool):∃r,zLO fu f n d deep=some r/\zci f r:=by
 unfold zLO
 rw [zMd hfu hr (by simp),bnd_some,zb2 hfu hr,bnd_some]
 have e:[n].all (inB f)=inB f n:=by simp
 rw [e]
 by_cases h:inB f n=true
 ·rw [h,iA,cnd_false]
  by_cases i:isB f.Nodes d 0=true
  ·rw [i,iA,cnd_false]
   exact zaK hr hfu n d deep (by unfold inB at h;exact of_decide_eq_true h)
  ·rw [iL.2 i,jL,cnd_true]
   exact ⟨_,rfl,.inl ⟨1,by omega,rfl⟩⟩
 ·rw [iL.2 h,jL,cnd_true]
  exact ⟨_,rfl,.inl ⟨1,by omega,rfl⟩⟩
end
section
def Ext (a b:List Node):Prop:=a.length<=b.length/\∀j w,idx a j=some w->∃v,idx b j=some v/\v.Kind=w.Kind/\upI b j=upI a j
theorem Ext.refl (a:List Node):Ext a a:=⟨cB _,fun _ w h=>⟨w,h,rfl,rfl⟩⟩
theorem Ext.of_bare (h:b.map bare=a.map bare):Ext a b:=by
 have hl:b.length=a.length:=by have:=congrArg List.length h;simpa using this
 refine ⟨by omega,fun j w hw=>?_⟩
 have u:=zAH hw
 obtain ⟨v,i⟩:=zAI (l:=b) (n:=j) (by omega)
 refine ⟨v,i,?_,by rw [<- zWT,h,zWT]⟩
 have e:=zKN (l:=b) (g:=bare) (n:=j)
 rw [h,zKN,hw,i] at e
 have q:=lJ.inj e
 show (bare v).Kind=w.Kind
 rw [<- q];rfl
theorem Ext.of_take (h:b.take a.length=a) (hl:a.length<=b.length):Ext a b:=by
 have i:b=a++b.drop a.length:=by
  conv=>lhs;rw [<- List.take_append_drop a.length b,h]
 refine ⟨hl,fun j w hw=>?_⟩
 rw [i]
 have e:=zKM (m:=b.drop a.length) hw
 exact ⟨w,e,rfl,zb5 (zAH hw)⟩
def Chg (f g:Forest) (l:List Note):Prop:=∃f1 h i e m,Ext f.Nodes f1.Nodes/\zAG f1=true/\Mv m f1 h i/\m<=1000/\Ext h.Nodes g.Nodes/\l=i++e/\(∀y∈e,y.Kind=3\/y.Kind=4)/\e.length<=1000/\g.Nodes.length<=1000/\∀x∈g.Nodes,x.Kids.length<=2000
theorem Chg.of_mv {f:Forest} {l:List Note} {m:Nat} (hr:zAG f=true) (h:Mv m f g l) (e:m<=1000):Chg f g l:=by
 have hs:=zAE (h.all hr).1
 exact ⟨f,g,l,[],m,Ext.refl _,hr,h,e,Ext.refl _,by simp,by simp,by simp,by have:=hs.few;omega,fun x hx=>by have:=hs.kids x hx;omega⟩
theorem Chg.of_ext {f:Forest} (hr:zAG f=true) (h:Ext f.Nodes g.Nodes) (e:g.Nodes.length<=1000) (i:∀x∈g.Nodes,x.Kids.length<=2000):Chg f g [] :=
 ⟨f,f,[],[],0,Ext.refl _,hr,.refl f,by omega,h,rfl,by simp,by simp,e,i⟩
theorem Chg.len {f:Forest} {l:List Note} (h:Chg f g l):l.length<=2000000:=by
 obtain ⟨f1,i,u,C,m,_,hr,e,j,_,rfl,_,q,_⟩:=h
 have:=(e.all hr).2.2.2
 simp only [eR]
 omega
theorem Chg.of_hand {f:Forest} {N:Nat} (hr:zAG f=true) (h:Hand f N r) (j:N<=1000):r.2.2≠0\/(r.2.2=0/\Chg f r.1 r.2.1):=by
 rcases h with ⟨e,i,rfl⟩ | ⟨m,g,l,q,h,rfl⟩
 ·exact .inl i
 ·exact .inr ⟨rfl,.of_mv hr h (by omega)⟩
theorem Chg.of_attrs {f:Forest} (hr:zAG f=true) (h:zZk f r):r.2.2≠0\/(r.2.2=0/\Chg f r.1 r.2.1):=by
 rcases h with ⟨e,u,rfl⟩ | ⟨g,l,i,C,j,D,q,rfl⟩
 ·exact .inl u
 ·have hs:=zAE i
  exact .inr ⟨rfl,f,f,[],l,0,Ext.refl _,hr,.refl f,by omega,Ext.of_bare j,rfl,fun y hy=>.inr (q y hy),by omega,by have:=hs.few;simp only;omega,fun x hx=>by have:=hs.kids x hx;omega⟩
theorem Chg.of_copy {f:Forest} {r:Forest×Int×Int} (hr:zAG f=true) (h:zci f r):r.2.2≠0\/(r.2.2=0/\Chg f r.1 []):=by
 rcases h with ⟨e,C,rfl⟩ | ⟨ns,i,j,q,u,rfl⟩
 ·exact .inl C
 ·exact .inr ⟨rfl,.of_ext hr (.of_take i j) q u⟩
section
variable {f:Forest} {fu:Nat} (hr:zAG f=true) (hfu:1000<fu)
include hr hfu
theorem zWN (n:Int):∃r,zH3 fu f n=some r/\(r.2.2≠0\/(r.2.2=0/\Chg f r.1 [])):=by
 have hs:=zAE hr
 have u:=hs.few
 have fin:∀x,idx f.Nodes n=some x->∃r,zFk fu f n x ()=some r/\(r.2.2≠0\/(r.2.2=0/\Chg f r.1 [])):=fun x hx=>by
  unfold zFk
  rw [zAe,zAd,zJb (by omega),bnd_some,zAc (by simp;omega),bnd_some,zKM hx,bnd_some]
  by_cases E:x.Under = -1
  ·rw [iP E]
   by_cases D:(f.Nodes.length:Int)=f.Most
   ·rw [iP D];exact ⟨_,rfl,.inl (by simp)⟩
   ·rw [iN D]
    have F:=zAH hx
    refine ⟨_,rfl,.inr ⟨rfl,.of_ext hr ⟨by simp,fun j w hw=>?_⟩ (by simp;omega) fun y hy=>?_⟩⟩
    ·have i:=zKM (m:=[(⟨4,[],[],[],[],-1,[],n,-1,x.Doc⟩:Node)]) hw
     by_cases C:j=n
     ·subst C
      rw [hx] at hw
      obtain rfl:=lJ.inj hw
      have e:idx ((f.Nodes++[(⟨4,[],[],[],[],-1,[],j,-1,x.Doc⟩:Node)]).set j.toNat ⟨x.Kind,x.Name,x.Is,x.Data,x.Attrs,x.Parent,x.Kids,x.Host,(f.Nodes.length:Int),x.Doc⟩) j=some ⟨x.Kind,x.Name,x.Is,x.Data,x.Attrs,x.Parent,x.Kids,x.Host,(f.Nodes.length:Int),x.Doc⟩:=zKq (by simp;omega)
      exact ⟨_,e,rfl,by rw [zG1 e,zG1 hx]⟩
     ·have e:idx ((f.Nodes++[(⟨4,[],[],[],[],-1,[],n,-1,x.Doc⟩:Node)]).set n.toNat ⟨x.Kind,x.Name,x.Is,x.Data,x.Attrs,x.Parent,x.Kids,x.Host,(f.Nodes.length:Int),x.Doc⟩) j=some w:=(zJY (by omega) C).trans i
      exact ⟨_,e,rfl,by rw [zG1 e,zG1 hw]⟩
    ·rcases dT hy with h | rfl
     ·rcases cA.1 h with h | h
      ·have:=hs.kids y h;omega
      ·rw [e8.1 h];simp
     ·have:=hs.kids x (zEp hx);simp only;omega
  ·rw [iN E];exact ⟨_,rfl,.inl (by simp)⟩
 unfold zH3
 rw [zVt hfu (hs.fit hfu) hr (by simp),bnd_some,show [n].all (inB f)=inB f n by simp]
 by_cases q:inB f n=true
 ·obtain ⟨x,hx⟩:∃x,idx f.Nodes n=some x:=by
   unfold inB at q
   exact zAI (of_decide_eq_true q)
  rw [q,iA,cnd_false,hx,bnd_some,zAe,zHu (by omega),bnd_some]
  by_cases i:x.Kind=1
  ·rw [iP i]
   cases zFI x.Name with
   | true=>rw [iA,cnd_false];exact fin x hx
   | false =>
    unfold zLH
    rw [jL,cnd_true,bnd_some,zJ8 (by simp;omega) (by simp),bnd_some]
    generalize List.contains _ x.Name=b
    cases b with
    | true=>rw [iA,cnd_false];exact fin x hx
    | false=>exact ⟨_,rfl,.inl (by simp)⟩
  ·rw [iN i];exact ⟨_,rfl,.inl (by simp)⟩
 ·rw [iL.2 q,jL,cnd_true]
  exact ⟨_,rfl,.inl (by simp)⟩
omit hfu in
theorem zay {k:Int} {y:Node} (hy:idx f.Nodes n=some y) (e:k∈y.Kids):InN f.Nodes k:=by
 obtain ⟨w,hw⟩:=zJA (zAa hr).2.2.1 hy k e
 exact zAH hw
theorem zfn {y:Node} (hl:y.Kids.length<=400) (E:∀k∈y.Kids,InN f.Nodes k):∀(m i K:Nat) (g:Forest) (l:List Note),i+m=y.Kids.length->m<K->Mv i f g l->∃h I,zF1 fu y K ((i:Int),l,g.Nodes,g.Most)=some (h,I,0)/\Mv y.Kids.length f h I:=by
 intro m
 induction m with
 | zero =>
  intro i K g l hi N j
  obtain ⟨K,rfl⟩:∃D,K=D+1:=⟨K - 1,by omega⟩
  obtain rfl:i=y.Kids.length:=by omega
  simp only [zF1]
  rw [zAO (by simp)]
  exact ⟨g,l,rfl,j⟩
 | succ m G =>
  intro i K g l hi N j
  obtain ⟨K,rfl⟩:∃D,K=D+1:=⟨K - 1,by omega⟩
  have e:i<y.Kids.length:=by omega
  obtain ⟨F,_,hS,P⟩:=j.all hr
  have u:InN g.Nodes y.Kids[i]:=hS.inN.2 (E _ (gC e))
  simp only [zF1]
  rw [zAP (by simpa using e),zAQ e,bnd_some,zN3 F hfu,bnd_some,iP u]
  by_cases C:zI5 g.Nodes y.Kids[i] = -1
  ·have q:Mv (i+1) f ⟨zL1 g.Nodes y.Kids[i],g.Most⟩ (l++zG2 g y.Kids[i]):=j.out u
   obtain ⟨z,hz⟩:=zAI u
   have J:zL1 g.Nodes y.Kids[i]=g.Nodes:=zOl hz (by rw [<- zIq hz];exact C)
   have M:zG2 g y.Kids[i]=[]:=by unfold zG2;rw [iN fun h=>h.1 C]
   rw [J,M] at q
   rw [iP C]
   simp only
   rw [zAc (by simp;omega),bnd_some,zBL (by omega),bnd_some]
   exact G (i+1) K g (l++[]) (by omega) (by omega) q
  ·rw [iN C]
   simp only
   have Q:=zJe F u
   rw [zAc (by omega),bnd_some,zBL (by omega),bnd_some]
   exact G (i+1) K ⟨zL1 g.Nodes y.Kids[i],g.Most⟩ (l++zG2 g y.Kids[i]) (by omega) (by omega) (j.out u)
theorem zY3 (n:Int):∃r,zIT fu f n=some r/\(r.2.2≠0\/(r.2.2=0/\Chg f r.1 r.2.1)):=by
 have hs:=zAE hr
 unfold zIT
 rw [zMd hfu hr (by simp),bnd_some,show [n].all (inB f)=inB f n by simp]
 by_cases e:inB f n=true
 ·obtain ⟨y,hy⟩:∃x,idx f.Nodes n=some x:=by
   unfold inB at e
   exact zAI (of_decide_eq_true e)
  have i:=hs.kids y (zEp hy)
  rw [e,iA,cnd_false,hy,bnd_some]
  obtain ⟨h,C,j,q⟩:=zfn hr hfu i (fun k u=>zay hr hy u) y.Kids.length 0 fu f [] (by omega) (by omega) (.refl f)
  exact ⟨_,j,.inr ⟨rfl,.of_mv hr q (by omega)⟩⟩
 ·rw [iL.2 e,jL,cnd_true]
  exact ⟨_,rfl,.inl (by simp)⟩
end
end
section
theorem zdP {f:Forest} (hr:zAG f=true) {n k:Int} {y:Node} (hy:idx f.Nodes n=some y) (j:k∈y.Kids):isB f.Nodes k 3=false:=by
 have i:=zBc (zAa hr).2.2.1 hy
 unfold zFd zEO at i
 simp only [lM,lR] at i
 have h:=i.2.2.2.1.2.1 k j
 unfold zOe at h
 unfold isB
 cases hz:idx f.Nodes k with
 | none=>rfl
 | some z =>
  rw [hz] at h
  simp only [lM,dD,beq_iff_eq,bne_iff_ne] at h
  simp only
  rcases h.2.2 with e | e
  ·rw [e];rfl
  ·rw [e.1];rfl
section
variable {fu:Nat} {f1:Forest} {at_:Int} {e6:Int} (hr:zAG f1=true) (hfu:1000<fu)
include hr hfu
theorem join_l {y:Node} (hl:y.Kids.length<=400) (F:∀k∈y.Kids,isB f1.Nodes k 3=false):∀(m i K q:Nat) (g:Forest) (l:List Note),i+m=y.Kids.length->m<K->Mv q f1 g l->q<=i->∃h D N,zGw fu (f1,at_,e6) y K ((i:Int),l,g.Nodes,g.Most)=some (h,at_,D,0)/\Mv N f1 h D/\N<=y.Kids.length:=by
 intro m
 induction m with
 | zero =>
  intro i K q g l hi S u J
  obtain ⟨K,rfl⟩:∃E,K=E+1:=⟨K - 1,by omega⟩
  obtain rfl:i=y.Kids.length:=by omega
  simp only [zGw]
  rw [zAO (by simp)]
  exact ⟨g,l,q,rfl,u,J⟩
 | succ m M =>
  intro i K q g l hi S u J
  obtain ⟨K,rfl⟩:∃E,K=E+1:=⟨K - 1,by omega⟩
  have j:i<y.Kids.length:=by omega
  obtain ⟨I,_,hS,V⟩:=u.all hr
  have Q:isB g.Nodes y.Kids[i] 3=false:=by rw [hS.isB];exact F _ (gC j)
  obtain ⟨r,P,G⟩:=zRT I hfu y.Kids[i] at_ (-1)
  rw [iN (by rw [Q];simp)] at G
  simp only [zGw]
  rw [zAP (by simpa using j),zAQ j,bnd_some,P,bnd_some]
  rcases G with ⟨e,he,rfl⟩ | ⟨X,h,D,W,C,rfl⟩
  ·simp only
   rw [zAc (by simp;omega),bnd_some,zBL (by omega),bnd_some,gI]
   exact M (i+1) K q g l (by omega) (by omega) u (by omega)
  ·have T:=(C.all I).2.2.2
   simp only
   rw [zAc (by omega),bnd_some,zBL (by omega),bnd_some]
   exact M (i+1) K (q+X) h (l++D) (by omega) (by omega) (u.trans C) (by omega)
end
theorem zbJ (f:Forest) (x:Node):Ext f.Nodes (f.Nodes++[x]):=Ext.of_take (List.take_left' rfl) (by simp)
theorem zax {fu:Nat} {f:Forest} (hr:zAG f=true) (hfu:1000<fu) (n:Int):∃r,zLP fu f n=some r/\(r.2.2.2≠0\/(r.2.2.2=0/\Chg f r.1 r.2.2.1)):=by
 have hs:=zAE hr
 unfold zLP
 rw [zMd hfu hr (by simp),bnd_some,show [n].all (inB f)=inB f n by simp]
 by_cases i:inB f n=true
 ·obtain ⟨y,hy⟩:∃x,idx f.Nodes n=some x:=by
   unfold inB at i
   exact zAI (of_decide_eq_true i)
  have q:=hs.kids y (zEp hy)
  rw [i,iA,cnd_false,hy,bnd_some,zAd]
  by_cases D:y.Kind=2
  ·rw [iP D];exact ⟨_,rfl,.inl (by simp)⟩
  ·rw [iN D,bnd_some,za9 hfu (hs.fit hfu) (by simp),bnd_some]
   by_cases j:zAG f=true/\zbI f ⟨3,[],[],[],[],0,[],0,0,y.Doc⟩=true
   ·rw [iP j]
    by_cases u:(f.Nodes.length:Int)=f.Most
    ·rw [iP u,zAe,iN (by simp)]
     exact ⟨_,rfl,.inl (by simp)⟩
    ·rw [iN u,zAe,iP rfl,bnd_some]
     have e:=zVj hr j.2 u
     have I:=zbJ f (zZI f ⟨3,[],[],[],[],0,[],0,0,y.Doc⟩)
     obtain ⟨h,J,K,F,C,M⟩:=join_l (fu:=fu) (at_:=(f.Nodes.length:Int)) (e6:=0) e hfu q (fun k E=>by
      have G:=zdP hr hy E
      obtain ⟨w,hw⟩:=zJA (zAa hr).2.2.1 hy k E
      rw [zXw hw];exact G) y.Kids.length 0 fu 0 _ [] (by omega) (by omega) (.refl _) (cB _)
     have hs2:=zAE (C.all e).1
     refine ⟨_,F,.inr ⟨rfl,_,h,J,[],K,I,e,C,by omega,Ext.refl _,by simp,by simp,by simp,?_,fun x hx=>?_⟩⟩
     ·have:=hs2.few;simp only;omega
     ·have:=hs2.kids x hx;omega
   ·rw [iN j,zAe,iN (by simp)]
    exact ⟨_,rfl,.inl (by simp)⟩
 ·rw [iL.2 i,jL,cnd_true]
  exact ⟨_,rfl,.inl (by simp)⟩
def ze7 (a b:List Node):Prop:=b.length=a.length/\∀j w,idx a j=some w->∃v,idx b j=some v/\v.Kind=w.Kind/\v.Parent=w.Parent/\v.Host=w.Host/\v.Kids=w.Kids
theorem ze7.ext (h:ze7 a b):Ext a b:=⟨by rw [h.1];exact cB _,fun j w hw=>by
 obtain ⟨v,e,i,q,u,_⟩:=h.2 j w hw
 exact ⟨v,e,i,by rw [zG1 e,zG1 hw,q,u]⟩⟩
theorem ze7.set (h:ze7 a b) {n d:Int} {v:Node} (D:idx b n=some v):ze7 a (b.set n.toNat ⟨v.Kind,v.Name,v.Is,v.Data,v.Attrs,v.Parent,v.Kids,v.Host,v.Under,d⟩):=by
 have C:=zAH D
 refine ⟨by simpa using h.1,fun j w hw=>?_⟩
 obtain ⟨u,e,i⟩:=h.2 j w hw
 by_cases q:j=n
 ·subst q
  rw [D] at e
  obtain rfl:=lJ.inj e
  exact ⟨_,zKq C,i⟩
 ·exact ⟨u,(zJY C.1 q).trans e,i⟩
theorem take_l {y6:Node} {d c11:Int} {r13:List Int} (hl:r13.length<=1000) (I:∀k∈r13,InN a k):∀(m i K:Nat) (ns:List Node) (l:List Note),i+m=r13.length->m<K->ze7 a ns->l.length+m<=1000000 ->
  ∃e j,zFn d y6 c11 r13 K ((i:Int),ns,l)=some (⟨e,c11⟩,l++j,0)/\ze7 a e/\j.length<=m/\∀y∈j,y.Kind=3:=by
 intro m
 induction m with
 | zero =>
  intro i K ns l hi S C _
  obtain ⟨K,rfl⟩:∃D,K=D+1:=⟨K - 1,by omega⟩
  obtain rfl:i=r13.length:=by omega
  simp only [zFn]
  rw [zAO (by simp)]
  exact ⟨ns,[],by rw [gI],C,by simp,by simp⟩
 | succ m P =>
  intro i K ns l hi S C T
  obtain ⟨K,rfl⟩:∃D,K=D+1:=⟨K - 1,by omega⟩
  have h:i<r13.length:=by omega
  have M:=I _ (gC h)
  have u:InN ns r13[i]:=by unfold InN at M ⊢;rw [C.1];exact M
  obtain ⟨v,N⟩:=zAI u
  have q:=C.set (d:=d) N
  simp only [zFn]
  rw [zAP (by simpa using h),zAQ h,bnd_some,N,bnd_some,zKq u,bnd_some,zAd]
  by_cases J:v.Kind=1
  ·rw [iP J,zAc (by simp only [cP,eK];omega),bnd_some,zBL (by omega),bnd_some]
   obtain ⟨e,j,E,F,Q,G⟩:=P (i+1) K _ (l++[(⟨3,r13[i],y6.Doc,d,[],false,false,[],[]⟩:Note)]) (by omega) (by omega) q (by simp only [eR,cP,eK];omega)
   refine ⟨e,(⟨3,r13[i],y6.Doc,d,[],false,false,[],[]⟩:Note)::j,?_,F,by simp only [cP];omega,fun y hy=>?_⟩
   ·rw [E,eS];rfl
   ·rcases List.mem_cons.1 hy with rfl | hy
    ·rfl
    ·exact G y hy
  ·rw [iN J,zBL (by omega),bnd_some]
   obtain ⟨e,j,E,F,Q,G⟩:=P (i+1) K _ l (by omega) (by omega) q (by omega)
   exact ⟨e,j,E,F,by omega,G⟩
theorem zb1 {fu:Nat} {f:Forest} {d:Int} {y6:Node} {l:List Note} {m:Nat} (hr:zAG f=true) (hfu:1000<fu) (T:InN f.Nodes n) (E:Mv m f g l) (X:m<=1):∃r,zIV fu n d y6 (l,g.Nodes,g.Most)=some r/\(r.2.2≠0\/(r.2.2=0/\Chg f r.1 r.2.1)):=by
 obtain ⟨D,_,hS,S⟩:=E.all hr
 have hs:=zAE D
 have J:=hs.few
 have h:InN g.Nodes n:=hS.inN.2 T
 have P:=(zAN D).all_len h
 unfold zIV
 simp only
 rw [zAd]
 by_cases I:y6.Doc=d
 ·rw [iP I]
  exact ⟨_,rfl,.inr ⟨rfl,.of_mv hr E (by omega)⟩⟩
 ·rw [iN I,zJb (by omega),bnd_some,zXU (f:=⟨g.Nodes,g.Most⟩) hs hfu D h,bnd_some]
  obtain ⟨q,V,K,C,W,M⟩:=take_l (y6:=y6) (d:=d) (c11:=g.Most) (r13:=zGN g.Nodes n) (a:=g.Nodes) (by omega) (fun k Q=>((zAN D).all_in n h k Q).1) (zGN g.Nodes n).length 0 fu g.Nodes l (by omega) (by omega) ⟨rfl,fun j w hw=>⟨w,hw,rfl,rfl,rfl,rfl⟩⟩ (by omega)
  refine ⟨_,K,.inr ⟨rfl,f,g,l,V,m,Ext.refl _,hr,E,by omega,C.ext,rfl,fun y hy=>.inl (M y hy),by omega,?_,fun x hx=>?_⟩⟩
  ·show q.length<=1000
   rw [C.1];omega
  ·obtain ⟨i,hi,e⟩:=iW hx
   have u:i<g.Nodes.length:=by
    have:i<q.length:=hi
    rw [C.1] at this;exact this
   obtain ⟨v,G,_,_,_,N⟩:=C.2 (i:Int) _ (zAQ u)
   have F:idx q (i:Int)=some x:=by
    rw [zAQ hi];exact congrArg some e
   rw [F] at G
   rw [lJ.inj G,N]
   have:=hs.kids _ (gC u)
   omega
theorem zb0 {fu:Nat} {f:Forest} (hr:zAG f=true) (hfu:1000<fu) (n d:Int):∃r,zJT fu f n d=some r/\(r.2.2≠0\/(r.2.2=0/\Chg f r.1 r.2.1)):=by
 have i:∃r,(some (f,([]:List Note),(1:Int)))=some r/\(r.2.2≠0\/(r.2.2=0/\Chg f r.1 r.2.1)):=⟨_,rfl,.inl (by simp)⟩
 have h:∃r,(some (f,([]:List Note),(5:Int)))=some r/\(r.2.2≠0\/(r.2.2=0/\Chg f r.1 r.2.1)):=⟨_,rfl,.inl (by simp)⟩
 unfold zJT
 rw [zMd hfu hr (by simp),bnd_some,zb2 hfu hr,bnd_some,show [n].all (inB f)=inB f n by simp]
 by_cases j:inB f n=true
 ·have e:InN f.Nodes n:=by unfold inB at j;exact of_decide_eq_true j
  obtain ⟨y,hy⟩:=zAI e
  rw [j,iA,cnd_false]
  by_cases q:isB f.Nodes d 0=true
  ·rw [q,iA,cnd_false,hy,bnd_some,bnd_some]
   have j1:∃r,zIU fu f n d y ()=some r/\(r.2.2≠0\/(r.2.2=0/\Chg f r.1 r.2.1)):=by
    unfold zIU
    rw [zN3 hr hfu,bnd_some,iP e]
    by_cases u:zI5 f.Nodes n = -1
    ·rw [iP u,zAe,iN (by simp)]
     exact zb1 hr hfu e (.refl f) (by omega)
    ·rw [iN u,zAe,iP rfl]
     have C:Mv 1 f ⟨zL1 f.Nodes n,f.Most⟩ (zG2 f n):=by simpa using Mv.out (.refl f) e
     exact zb1 hr hfu e C (by omega)
   rw [zAd,zAd,zAd]
   split
   ·exact h
   ·split
    ·exact h
    ·exact j1
  ·rw [iL.2 q,jL,cnd_true];exact i
 ·rw [iL.2 j,jL,cnd_true];exact i
end
section
def zXz:List Bs:=(zEr 0).getD []
theorem zdR (fu:Nat):zEr fu=some zXz:=by
 have h:∃l,zEr 0=some l:=by
  have:(zEr 0).isSome=true:=by decide +kernel
  exact kY.1 this
 obtain ⟨l,hl⟩:=h
 have e:zEr fu=zEr 0:=rfl
 unfold zXz
 rw [e,hl];rfl
theorem zZA:zXz.length<=200:=by decide +kernel
def zaz (s:Bs):Bool:=zXz.contains s
theorem zY8 {fu:Nat} {s:Bs} (hfu:1000<fu):zJ1 fu s=some (zaz s):=by
 have:=zZA
 unfold zJ1
 rw [zdR,bnd_some,zJ8 (by omega) (by omega),bnd_some]
 rfl
theorem zW2 [DecidableEq κ] {l:List (κ × ν)} {k : κ} {v : ν} {x : κ × ν} (h:x∈zGz l k v):x∈l\/x=(k,v):=by
 unfold zGz at h
 split at h
 ·rcases dT h with h | h
  ·exact .inl h
  ·exact .inr h
 ·rcases cA.1 h with h | h
  ·exact .inl h
  ·exact .inr (e8.1 h)
theorem zTw [DecidableEq κ] {l:List (κ × ν)} {k : κ} {z : ν} (h:zKu l k=true):(k,zK5 l k z)∈l:=by
 unfold zKu at h
 unfold zK5
 cases e:zHt l k with
 | none=>rw [e] at h;cases h
 | some j =>
  obtain ⟨v,i⟩:=zI4 e
  simp only [i]
  exact lU i
def defB (y:Def):Bool:=zFI y.Name&&((y.Local==y.Name||zaz y.Local)&&(decide (0<=y.Class)&&decide (y.Class<12)))
def rdF (n:Nat):List Def->Nat->List (Int×Int)->List (Bs×Int)->zCi×Bool
 | [],_,l3,l4=>(⟨l4,l3⟩,decide (l4.length=n)&&decide (l3.length=n))
 | y::t,i,l3,l4=>if defB y=true then rdF n t (i+1) (zGz l3 y.Class (i:Int)) (zGz l4 y.Name (i:Int)) else (⟨zGz l4 y.Name (i:Int),zGz l3 y.Class (i:Int)⟩,false)
theorem zbn {fu:Nat} {i:Int} {e:List (Int×Int)} {l4:List (Bs×Int)} {y:Def} {rc:Int×List (Int×Int)×List (Bs×Int)->Option (zCi×Bool)} {b:Bool} (hfu:1000<fu) (u:0<=i) (C:i<=1000000) (q:b=(y.Local==y.Name||zaz y.Local)) :
  zIB fu i e l4 y rc b=if defB y=true then rc (i+1,zGz e y.Class i,zGz l4 y.Name i) else some (⟨zGz l4 y.Name i,zGz e y.Class i⟩,false):=by
 unfold zIB defB
 rw [<- q,zHu (by omega),bnd_some,zKD (by simp only [lo,Go.Pw.hi];omega),bnd_some]
 cases zFI y.Name with
 | false=>rfl
 | true =>
  cases b with
  | false=>rfl
  | true =>
   simp only [iA,cnd_false,iD,zAM]
   by_cases h:y.Class<0
   ·rw [iP h,decide_eq_false (by omega)];rfl
   ·rw [iN h,decide_eq_true (by omega)]
    by_cases j:y.Class>=12
    ·rw [iP j,decide_eq_false (by omega)];rfl
    ·rw [iN j,decide_eq_true (by omega)];rfl
theorem zgY {fu:Nat} {d:Desk} (hfu:1000<fu) (hl:d.Defs.length<=900):zLA fu d=some (rdF d.Defs.length d.Defs 0 [] []):=by
 have F:∀(j i k:Nat) (C:List (Int×Int)) (q:List (Bs×Int)),i+j=d.Defs.length->j<k->zD9 fu d k ((i:Int),C,q)=some (rdF d.Defs.length (d.Defs.drop i) i C q):=by
  intro j
  induction j with
  | zero =>
   intro i k C q hi J
   obtain ⟨k,rfl⟩:∃E,k=E+1:=⟨k - 1,by omega⟩
   obtain rfl:i=d.Defs.length:=by omega
   simp only [zD9]
   rw [zAO (by simp),kK,zAd]
   unfold rdF
   have e:∀m:Nat,(((m:Nat):Int)==(d.Defs.length:Int))=decide (m=d.Defs.length):=fun m=>by
    rw [eW,beq_iff_eq,decide_eq_true_eq];omega
   rw [e]
   by_cases G:q.length=d.Defs.length
   ·rw [iP (by omega),decide_eq_true G];rfl
   ·rw [iN (by omega),decide_eq_false G];rfl
  | succ j K =>
   intro i k C q hi J
   obtain ⟨k,rfl⟩:∃E,k=E+1:=⟨k - 1,by omega⟩
   have h:i<d.Defs.length:=by omega
   simp only [zD9]
   rw [zAP (by simpa using h),zAQ h,bnd_some,zAd,zY8 hfu,bnd_some,eT h]
   have u:=K (i+1) k (zGz C d.Defs[i].Class (i:Int)) (zGz q d.Defs[i].Name (i:Int)) (by omega) (by omega)
   have I:((i+1:Nat):Int)=(i:Int)+1:=by omega
   rw [I] at u
   have fin:(if defB d.Defs[i]=true then zD9 fu d k ((i:Int)+1,zGz C d.Defs[i].Class (i:Int),zGz q d.Defs[i].Name (i:Int)) else some ((⟨zGz q d.Defs[i].Name (i:Int),zGz C d.Defs[i].Class (i:Int)⟩:zCi),false))=some (rdF d.Defs.length (d.Defs[i]::d.Defs.drop (i+1)) i C q):=by
    rw [u]
    simp only [rdF]
    split<;>rfl
   by_cases D:d.Defs[i].Local=d.Defs[i].Name
   ·rw [iP D,zbn hfu (by omega) (by omega) (by rw [show (d.Defs[i].Local==d.Defs[i].Name)=true by simpa using D];rfl)]
    exact fin
   ·rw [iN D,zbn hfu (by omega) (by omega) (by rw [show (d.Defs[i].Local==d.Defs[i].Name)=false by simpa using D];rfl)]
    exact fin
 unfold zLA
 have:=F d.Defs.length 0 fu [] [] (by omega) (by omega)
 simpa using this
def zHV (d:Desk):zCi×Bool:=rdF d.Defs.length d.Defs 0 [] []
theorem zYN {n:Nat}:∀(l:List Def) (i:Nat) (j:List (Int×Int)) (l4:List (Bs×Int)),i+l.length=n->(∀x∈l4,0<=x.2/\x.2<(n:Int))->∀x∈(rdF n l i j l4).1.names,0<=x.2/\x.2<(n:Int)
 | [],_,_,_,_,h=>h
 | y::t,i,j,l4,hi,h=>by
  simp only [cP] at hi
  have e:∀x∈zGz l4 y.Name (i:Int),0<=x.2/\x.2<(n:Int):=fun x hx=>by
   rcases zW2 hx with hx | rfl
   ·exact h x hx
   ·simp only;omega
  simp only [rdF]
  split
  ·exact zYN t (i+1) _ _ (by omega) e
  ·exact e
theorem zMO {d:Desk} {s:Bs} (h:zKu (zHV d).1.names s=true):0<=zK5 (zHV d).1.names s 0/\zK5 (zHV d).1.names s 0<(d.Defs.length:Int) :=
 zYN d.Defs 0 [] [] (by omega) (by simp) _ (zTw h)
def opF (names:List (Bs×Int)) (next:Int):List Wait->Bool->Int->Bool
 | [],ok,_=>ok&&(decide (0<=next)&&decide (next<=100000))
 | y::t,ok,e=>opF names next t (ok&&(!zKu names y.Name&&(zFI y.Name&&(decide (e<y.Ticket)&&decide (y.Ticket<next))))) y.Ticket
def zKn (d:Desk):Bool:=opF (zHV d).1.names d.Next d.Waits (zHV d).2 (-1)
theorem zW4 {fu:Nat} {d:Desk} (hfu:1000<fu) (hl:d.Defs.length<=900) (hw:d.Waits.length<=900):zHd fu d=some ((zHV d).1,zKn d):=by
 have E:∀(j i k:Nat) (ok:Bool) (e:Int),i+j=d.Waits.length->j<k->zDN fu d (zHV d) k (ok,e,(i:Int))=some ((zHV d).1,opF (zHV d).1.names d.Next (d.Waits.drop i) ok e):=by
  intro j
  induction j with
  | zero =>
   intro i k ok e hi F
   obtain ⟨k,rfl⟩:∃D,k=D+1:=⟨k - 1,by omega⟩
   obtain rfl:i=d.Waits.length:=by omega
   simp only [zDN]
   rw [zAO (by simp),kK]
   unfold opF
   cases ok with
   | false=>rfl
   | true =>
    rw [cnd_true,zAM]
    by_cases u:d.Next>=0
    ·rw [iP u,decide_eq_true (show 0<=d.Next from u)];rfl
    ·rw [iN u,decide_eq_false (show ¬0<=d.Next from u)];rfl
  | succ j G =>
   intro i k ok e hi F
   obtain ⟨k,rfl⟩:∃D,k=D+1:=⟨k - 1,by omega⟩
   have h:i<d.Waits.length:=by omega
   have q:=fun b=>G (i+1) k b d.Waits[i].Ticket (by omega) (by omega)
   simp only [zDN]
   rw [zAP (by simpa using h),zAQ h,bnd_some,zHu (by omega),bnd_some,zBL (by omega),eT h]
   simp only [bnd_some,q]
   simp only [opF]
   generalize zKu (zHV d).1.names d.Waits[i].Name=m
   cases ok with
   | false=>simp
   | true =>
    cases m with
    | true=>simp
    | false =>
     cases zFI d.Waits[i].Name with
     | false=>simp
     | true =>
      rw [cnd_true,jL,cnd_true,cnd_true,zAM]
      by_cases C:d.Waits[i].Ticket>e
      ·rw [iP C,decide_eq_true (show e<d.Waits[i].Ticket from C)];simp
      ·rw [iN C,decide_eq_false (show ¬e<d.Waits[i].Ticket from C)];simp
 unfold zHd
 rw [zgY hfu hl,bnd_some]
 have:=E d.Waits.length 0 fu (zHV d).2 (-1) (by omega) (by omega)
 simpa [zKn,zHV] using this
theorem zRH {fu:Nat} {d:Desk} (hfu:1000<fu) (hl:d.Defs.length<=900) (hw:d.Waits.length<=900):zGn fu d=some (zKn d):=by
 unfold zGn
 rw [zW4 hfu hl hw,bnd_some]
def zWk (d:Desk) (loc e:Bs):Int :=
 if zKn d=true then
  (if zKu (zHV d).1.names loc=true/\(idx d.Defs (zK5 (zHV d).1.names loc 0)).map (·.Local)=some loc then zK5 (zHV d).1.names loc 0
  else if zKu (zHV d).1.names e=true/\(idx d.Defs (zK5 (zHV d).1.names e 0)).map (·.Local)=some loc then zK5 (zHV d).1.names e 0
  else -1)
 else -1
theorem find_d {fu:Nat} {d:Desk} {loc e:Bs} (hfu:1000<fu) (hl:d.Defs.length<=900) (hw:d.Waits.length<=900):zK8 fu d loc e=some (zWk d loc e):=by
 have j1:zIA d loc e ((zHV d).1,zKn d) ()=some (if zKu (zHV d).1.names e=true/\(idx d.Defs (zK5 (zHV d).1.names e 0)).map (·.Local)=some loc then zK5 (zHV d).1.names e 0 else -1):=by
  unfold zIA
  simp only
  cases h:zKu (zHV d).1.names e with
  | false=>simp
  | true =>
   obtain ⟨y,hy⟩:=zAI (zMO h)
   rw [cnd_true,hy,bnd_some,zAd]
   simp only [lW,true_and,lJ.injEq]
   split<;>rfl
 unfold zK8 zWk
 rw [zW4 hfu hl hw,bnd_some,j1]
 simp only
 cases i:zKn d with
 | false=>rfl
 | true =>
  rw [iA,cnd_false,iP rfl]
  cases h:zKu (zHV d).1.names loc with
  | false=>simp
  | true =>
   obtain ⟨y,hy⟩:=zAI (zMO h)
   rw [cnd_true,hy,bnd_some,zAd]
   simp only [lW,true_and,lJ.injEq]
   split<;>rfl
theorem zdF {d:Desk} {loc e:Bs}:zWk d loc e = -1\/(0<=zWk d loc e/\zWk d loc e<(d.Defs.length:Int)):=by
 unfold zWk
 split
 ·split
  ·rename_i h;exact .inr (zMO h.1)
  ·split
   ·rename_i h;exact .inr (zMO h.1)
   ·exact .inl rfl
 ·exact .inl rfl
end
section
theorem zRh {names:List (Bs×Int)} {next:Int}:∀{ws:List Wait} {ok:Bool} {e:Int},opF names next ws ok e=true->ok=true/\0<=next/\next<=100000
 | [],ok,e,h=>by
  simp only [opF,lM,decide_eq_true_eq] at h
  exact ⟨h.1,h.2.1,h.2.2⟩
 | y::t,ok,e,h=>by
  simp only [opF] at h
  have:=zRh h
  simp only [lM] at this
  exact ⟨this.1.1,this.2⟩
theorem zX7 {names:List (Bs×Int)} {next:Int} (q:next+1<=100000):∀{ws:List Wait} {ok:Bool} {e:Int},opF names next ws ok e=true->opF names (next+1) ws ok e=true
 | [],ok,e,h=>by
  simp only [opF,lM,decide_eq_true_eq] at h ⊢
  exact ⟨h.1,by omega,q⟩
 | y::t,ok,e,h=>by
  simp only [opF] at h ⊢
  have i:=(zRh h).1
  have j:=zX7 q h
  simp only [lM,decide_eq_true_eq] at i
  rw [i.1,i.2.1,i.2.2.1,decide_eq_true i.2.2.2.1,decide_eq_true i.2.2.2.2] at j
  rw [i.1,i.2.1,i.2.2.1,decide_eq_true i.2.2.2.1,decide_eq_true (show y.Ticket<next+1 by omega)]
  exact j
theorem zX8 {names:List (Bs×Int)} {next:Int} {s:Bs} (u:next+1<=100000) (hs:zKu names s=false) (q:zFI s=true):∀{ws:List Wait} {ok:Bool} {e:Int},opF names next ws ok e=true->e<next->opF names (next+1) (ws++[⟨s,next⟩]) ok e=true
 | [],ok,e,h,hl=>by
  simp only [opF,lM,decide_eq_true_eq] at h
  simp only [iU,opF,lM,decide_eq_true_eq,hs,q]
  exact ⟨⟨h.1,rfl,trivial,hl,by omega⟩,by omega,u⟩
 | y::t,ok,e,h,hl=>by
  simp only [opF] at h
  simp only [List.cons_append,opF]
  have i:=(zRh h).1
  simp only [lM,decide_eq_true_eq] at i
  have j:=zX8 u hs q h i.2.2.2.2
  rw [i.1,i.2.1,i.2.2.1,decide_eq_true i.2.2.2.1,decide_eq_true i.2.2.2.2] at j
  rw [i.1,i.2.1,i.2.2.1,decide_eq_true i.2.2.2.1,decide_eq_true (show y.Ticket<next+1 by omega)]
  exact j
def zFO (d:Desk) (s:Bs):Desk×Int×Int×Int :=
 if zKn d=false then (d,-1,-1,1) else if zFI s=false then (d,-1,-1,4) else if d.Next=100000 then (d,-1,-1,3)
 else if zKu (zHV d).1.names s=true then (⟨d.Defs,d.Waits,d.Next+1,d.Busy⟩,d.Next,zK5 (zHV d).1.names s 0,0)
 else (⟨d.Defs,d.Waits++[⟨s,d.Next⟩],d.Next+1,d.Busy⟩,d.Next,-1,0)
theorem zct {fu:Nat} {d:Desk} {s:Bs} (hfu:1000<fu) (hl:d.Defs.length<=900) (hw:d.Waits.length<=900):zJw fu d s=some (zFO d s):=by
 unfold zJw zFO
 rw [zW4 hfu hl hw,bnd_some]
 simp only
 cases h:zKn d with
 | false=>rfl
 | true =>
  have q:=(zRh h).2
  rw [iA,cnd_false,iN (by simp),zHu (by omega),bnd_some]
  cases i:zFI s with
  | false=>rfl
  | true =>
   rw [iA,cnd_false,iN (by simp),zAd]
   by_cases e:d.Next=100000
   ·rw [iP e,iP e]
   ·rw [iN e,iN e,zKD (by simp only [lo,Go.Pw.hi];omega),bnd_some]
    cases j:zKu (zHV d).1.names s with
    | true=>rfl
    | false =>
     rw [cnd_false,iN (by simp)]
     unfold zFW
     rw [zAc (by simp;omega),bnd_some,bnd_some,zAc (by simp;omega),bnd_some]
     rfl
theorem zWR {d:Desk} {s:Bs} (h:(zFO d s).2.2.2=0):zKn d=true/\zKn (zFO d s).1=true/\zFI s=true/\(zFO d s).1.Defs=d.Defs/\(zFO d s).1.Busy=d.Busy/\(zFO d s).1.Next=d.Next+1/\(zFO d s).2.1=d.Next/\0<=d.Next /\
  (((zFO d s).2.2.1 = -1/\(zFO d s).1.Waits=d.Waits++[⟨s,d.Next⟩])\/(0<=(zFO d s).2.2.1/\(zFO d s).2.2.1<(d.Defs.length:Int)/\(zFO d s).1.Waits=d.Waits)):=by
 unfold zFO at h ⊢
 by_cases u:zKn d=false
 ·rw [iP u] at h;simp only at h;omega
 ·rw [iN u] at h ⊢
  have e:zKn d=true:=by simpa using u
  by_cases q:zFI s=false
  ·rw [iP q] at h;simp only at h;omega
  ·rw [iN q] at h ⊢
   have i:zFI s=true:=by simpa using q
   by_cases C:d.Next=100000
   ·rw [iP C] at h;simp only at h;omega
   ·rw [iN C] at h ⊢
    have D:=(zRh e).2
    by_cases j:zKu (zHV d).1.names s=true
    ·rw [iP j]
     have E:=zMO j
     exact ⟨e,zX7 (by omega) e,i,rfl,rfl,rfl,rfl,D.1,.inr ⟨E.1,E.2,rfl⟩⟩
    ·rw [iN j]
     exact ⟨e,zX8 (by omega) (iL.2 j) i e (by omega),i,rfl,rfl,rfl,rfl,D.1,.inl ⟨rfl,rfl⟩⟩
def zL0 (x:Node) (d:Desk):Int:=if x.Kind=1 then (if x.Doc=0 then zWk d x.Name x.Is else -1) else -1
theorem zOY {d:Desk}:zL0 x d = -1\/(0<=zL0 x d/\zL0 x d<(d.Defs.length:Int)):=by
 unfold zL0
 split
 ·split
  ·exact zdF
  ·exact .inl rfl
 ·exact .inl rfl
theorem zaf {fu:Nat} {d:Desk} (hfu:1000<fu) (hl:d.Defs.length<=900) (hw:d.Waits.length<=900):zJG fu x d=some (zL0 x d):=by
 unfold zJG zL0
 rw [zAe,zAe,find_d hfu hl hw,bnd_some]
 by_cases e:x.Kind=1
 ·rw [iP e,iP e]
  split<;>rfl
 ·rw [iN e,iN e]
theorem zZj {fu:Nat} {f:Forest} {d:Desk} (hfu:1000<fu) (hl:d.Defs.length<=900) (hw:d.Waits.length<=900) (hr:zAG f=true):zJF fu f n d=some (match idx f.Nodes n with | some x=>zL0 x d | none => -1):=by
 unfold zJF
 rw [zAM,zAM,zEo hfu ((zAE hr).fit hfu),bnd_some,hr,iA,cnd_false]
 by_cases e:n<0
 ·rw [iP e,zCW (by omega)]
 ·rw [iN e]
  by_cases h:n>=(f.Nodes.length:Int)
  ·rw [iP h,zCW (by omega)]
  ·obtain ⟨x,hx⟩:=zAI (l:=f.Nodes) (n:=n) (by omega)
   rw [iN h,hx,bnd_some,zaf hfu hl hw,bnd_some]
def zgw (at_:Int):Todo:=⟨9,at_,[],false,false,[],[],0,0,false⟩
def zOv (d:Desk) (l:List (Int×Node)):List Due:=l.filterMap fun p=>if zL0 p.2 d = -1 then none else some ⟨p.1,zgw (zL0 p.2 d)⟩
theorem zXM {fu:Nat} {d:Desk} (hfu:1000<fu) (hl:d.Defs.length<=900) (hw:d.Waits.length<=900):∀(l:List (Int×Node)) (acc:List Due),acc.length+l.length<=1000000->zEz fu d l acc=some (acc++zOv d l)
 | [],acc,_=>by simp [zEz,zOv]
 | p::l,acc,h=>by
  simp only [cP] at h
  simp only [zEz]
  rw [zaf hfu hl hw,bnd_some,zAe]
  unfold zOv
  rw [kR]
  by_cases e:zL0 p.2 d = -1
  ·rw [iP e,iP e,zXM hfu hl hw l acc (by omega)]
   rfl
  ·rw [iN e,iN e,zAc (by simp only [cP,eK];omega),bnd_some,zXM hfu hl hw l _ (by simp only [eR,cP,eK];omega),eS]
   rfl
def zSF (ns:List Node) (l:List Int):List (Int×Node):=l.filterMap fun k=>match idx ns k with
 | some x=>if x.Kind=1 then some (k,x) else none
 | none=>none
theorem zaW {ns:List Node}:∀{l:List Int},(∀k∈l,InN ns k)->zTi ns l=some (zSF ns l)
 | [],_=>rfl
 | k::l,h=>by
  obtain ⟨x,hx⟩:=zAI (h k (lH ..))
  simp only [zTi]
  rw [hx,bnd_some,zaW fun j i=>h j (lG _ i),bnd_some]
  unfold zSF
  rw [kR,hx]
  by_cases e:x.Kind=1
  ·simp [e]
  ·simp [e]
theorem zeM {fu:Nat} {f:Forest} {d:Desk} (hfu:1000<fu) (hl:d.Defs.length<=900) (hw:d.Waits.length<=900) (hr:zAG f=true) (e:InN f.Nodes n):zJy fu f n d=some (zOv d (zSF f.Nodes (zGN f.Nodes n))):=by
 have hs:=zAE hr
 have h:=hs.few
 have i:=(zAN hr).all_len e
 unfold zJy zMo
 rw [bnd_some,zXU hs hfu hr e,bnd_some,zaW fun k j=>((zAN hr).all_in n e k j).1,bnd_some]
 have:(zSF f.Nodes (zGN f.Nodes n)).length<=(zGN f.Nodes n).length:=kL _ _
 rw [zXM hfu hl hw _ _ (by simp only [eK];omega),iU]
end
section
theorem zAf {i:Nat} (h:i<=1000000000000):rng .i64 ((i:Int)+1)=some ((i+1:Nat):Int):=by
 rw [zKD (by simp only [lo,Go.Pw.hi];omega)]
 rfl
theorem zQG {fu:Nat} {t:Bs->Option Bool} {p:Bs->Bool} {l:List (Bs)} (j:∀x∈l,t x=some (p x)) (hf:l.length<fu) (q:l.length<=1000000000):zCM fu t l=some (l.any p):=by
 unfold zCM zEZ
 obtain ⟨r,e,h⟩:=zGB (L:=zBI t l) l p (fun i hi k=>by
  simp only [zBI]
  rw [zAP (by simpa using hi),zAQ hi,bnd_some,j _ (gC hi),bnd_some,zAf (by omega),bnd_some]
  cases p l[i]<;>rfl) (fun k=>by simp only [zBI];rw [zAO (by simp)]) hf
 rw [e,bnd_some,h]
theorem zPB {fu:Nat} {t:Hook->Option Bool} {p:Hook->Bool} {l:List (Hook)} (j:∀x∈l,t x=some (p x)) (hf:l.length<fu) (q:l.length<=1000000000):zB6 fu t l=some (l.any p):=by
 unfold zB6 zDw
 obtain ⟨r,e,h⟩:=zGB (L:=zA8 t l) l p (fun i hi k=>by
  simp only [zA8]
  rw [zAP (by simpa using hi),zAQ hi,bnd_some,j _ (gC hi),bnd_some,zAf (by omega),bnd_some]
  cases p l[i]<;>rfl) (fun k=>by simp only [zA8];rw [zAO (by simp)]) hf
 rw [e,bnd_some,h]
theorem zOU {fu:Nat} {t:Class->Option Bool} {p:Class->Bool} {l:List (Class)} (j:∀x∈l,t x=some (p x)) (hf:l.length<fu) (q:l.length<=1000000000):zBw fu t l=some (l.any p):=by
 unfold zBw zDm
 obtain ⟨r,e,h⟩:=zGB (L:=zAx t l) l p (fun i hi k=>by
  simp only [zAx]
  rw [zAP (by simpa using hi),zAQ hi,bnd_some,j _ (gC hi),bnd_some,zAf (by omega),bnd_some]
  cases p l[i]<;>rfl) (fun k=>by simp only [zAx];rw [zAO (by simp)]) hf
 rw [e,bnd_some,h]
theorem zQE {fu:Nat} {t:Def->Option Bool} {p:Def->Bool} {l:List (Def)} (j:∀x∈l,t x=some (p x)) (hf:l.length<fu) (q:l.length<=1000000000):zCK fu t l=some (l.any p):=by
 unfold zCK zEY
 obtain ⟨r,e,h⟩:=zGB (L:=zBH t l) l p (fun i hi k=>by
  simp only [zBH]
  rw [zAP (by simpa using hi),zAQ hi,bnd_some,j _ (gC hi),bnd_some,zAf (by omega),bnd_some]
  cases p l[i]<;>rfl) (fun k=>by simp only [zBH];rw [zAO (by simp)]) hf
 rw [e,bnd_some,h]
theorem zPD {fu:Nat} {t:Todo->Option Bool} {p:Todo->Bool} {l:List (Todo)} (j:∀x∈l,t x=some (p x)) (hf:l.length<fu) (q:l.length<=1000000000):zB8 fu t l=some (l.any p):=by
 unfold zB8 zDy
 obtain ⟨r,e,h⟩:=zGB (L:=zBA t l) l p (fun i hi k=>by
  simp only [zBA]
  rw [zAP (by simpa using hi),zAQ hi,bnd_some,j _ (gC hi),bnd_some,zAf (by omega),bnd_some]
  cases p l[i]<;>rfl) (fun k=>by simp only [zBA];rw [zAO (by simp)]) hf
 rw [e,bnd_some,h]
theorem zPC {fu:Nat} {t:Task->Option Bool} {p:Task->Bool} {l:List (Task)} (j:∀x∈l,t x=some (p x)) (hf:l.length<fu) (q:l.length<=1000000000):zB7 fu t l=some (l.any p):=by
 unfold zB7 zDx
 obtain ⟨r,e,h⟩:=zGB (L:=zA9 t l) l p (fun i hi k=>by
  simp only [zA9]
  rw [zAP (by simpa using hi),zAQ hi,bnd_some,j _ (gC hi),bnd_some,zAf (by omega),bnd_some]
  cases p l[i]<;>rfl) (fun k=>by simp only [zA9];rw [zAO (by simp)]) hf
 rw [e,bnd_some,h]
theorem zOT {fu:Nat} {t:Build->Option Bool} {p:Build->Bool} {l:List (Build)} (j:∀x∈l,t x=some (p x)) (hf:l.length<fu) (q:l.length<=1000000000):zBv fu t l=some (l.any p):=by
 unfold zBv zDl
 obtain ⟨r,e,h⟩:=zGB (L:=zAw t l) l p (fun i hi k=>by
  simp only [zAw]
  rw [zAP (by simpa using hi),zAQ hi,bnd_some,j _ (gC hi),bnd_some,zAf (by omega),bnd_some]
  cases p l[i]<;>rfl) (fun k=>by simp only [zAw];rw [zAO (by simp)]) hf
 rw [e,bnd_some,h]
theorem zQF {fu:Nat} {t:Due->Option Bool} {p:Due->Bool} {l:List (Due)} (j:∀x∈l,t x=some (p x)) (hf:l.length<fu) (q:l.length<=1000000000):zCL fu t l=some (l.any p):=by
 unfold zCL zAu
 obtain ⟨r,e,h⟩:=zGB (L:=zAW t l) l p (fun i hi k=>by
  simp only [zAW]
  rw [zAP (by simpa using hi),zAQ hi,bnd_some,j _ (gC hi),bnd_some,zAf (by omega),bnd_some]
  cases p l[i]<;>rfl) (fun k=>by simp only [zAW];rw [zAO (by simp)]) hf
 rw [e,bnd_some,h]
theorem zOS {fu:Nat} {t:List Todo->Option Bool} {p:List Todo->Bool} {l:List (List Todo)} (j:∀x∈l,t x=some (p x)) (hf:l.length<fu) (q:l.length<=1000000000):zBu fu t l=some (l.any p):=by
 unfold zBu zDk
 obtain ⟨r,e,h⟩:=zGB (L:=zAv t l) l p (fun i hi k=>by
  simp only [zAv]
  rw [zAP (by simpa using hi),zAQ hi,bnd_some,j _ (gC hi),bnd_some,zAf (by omega),bnd_some]
  cases p l[i]<;>rfl) (fun k=>by simp only [zAv];rw [zAO (by simp)]) hf
 rw [e,bnd_some,h]
end
section
def inL (l:Line) (n:Int):Bool:=decide (0<=n)&&decide (n<(l.Todos.length:Int))
def zHO (l:Line):Bool:=(l.Stack++[l.Back]).all fun e=>e.all (inL l)
structure LS (B:Nat) (l:Line):Prop where
 todos:l.Todos.length<=B
 todo:∀t∈l.Todos,t.length<=B
 stack:l.Stack.length<=B
 lists:∀t∈l.Stack,t.length<=B
 back:l.Back.length<=B
theorem LS.mono {B C:Nat} (h:LS B l) (e:B<=C):LS C l:=⟨eM h.todos e,fun t i=>eM (h.todo t i) e,eM h.stack e,fun t i=>eM (h.lists t i) e,eM h.back e⟩
section
variable {fu B:Nat} (hB:B<=1000000000) (hfu:B+1<fu)
include hB
omit hB in
theorem in_ok:zMA fu l n=some (inL l n):=by
 unfold zMA inL
 rw [zAM]
 by_cases h:n>=0
 ·rw [iP h,decide_eq_true (show 0<=n from h),iD]
 ·rw [iN h,decide_eq_false (show ¬0<=n from h),jD]
omit hB in
theorem zXe {l:List (List Int)} (h:l.length<=1000000000):zDj fu l=some l:=by
 unfold zDj
 rw [zAc (by simp;omega),bnd_some,iU]
omit hB in
theorem zcy {l:List (List Todo)} (h:l.length<=1000000000):zDH fu l=some l:=by
 unfold zDH
 rw [zAc (by simp;omega),bnd_some,iU]
omit hB in
theorem zaF {l:List Int} (h:l.length<=1000000000):zBW fu l=some l:=by
 unfold zBW
 rw [zAc (by simp;omega),bnd_some,iU]
omit hB in
theorem zfb {l:List Todo} (h:l.length<=1000000000):zDs fu l=some l:=by
 unfold zDs
 rw [zAc (by simp;omega),bnd_some,iU]
omit hB in
theorem zaH {l:List State} (h:l.length<=1000000000):zCS fu l=some l:=by
 unfold zCS
 rw [zAc (by simp;omega),bnd_some,iU]
omit hB in
theorem zaG {l:List Task} (h:l.length<=1000000000):zCj fu l=some l:=by
 unfold zCj
 rw [zAc (by simp;omega),bnd_some,iU]
include hfu
theorem zd8 {t:Nat} {y:List Int} {rc:Int->Option Bool} (hy:y.length<=B) (e:t<=B):zE6 fu l (t:Int) y rc fu 0=bif y.all (inL l) then rc ((t+1:Nat):Int) else some false:=by
 refine zK3 (L:=zE6 fu l (t:Int) y rc) y (inL l) (rc ((t+1:Nat):Int)) (fun i hi k=>?_) (fun k=>?_) (by omega)
 ·simp only [zE6]
  rw [zAP (by simpa using hi),zAQ hi,bnd_some,in_ok,bnd_some,zAf (by omega),bnd_some]
  cases inL l y[i]<;>rfl
 ·simp only [zE6]
  rw [zAO (by simp),zAf (by omega),bnd_some]
theorem zVN (h:LS B l):zIC fu l=some (zHO l):=by
 have hst:=h.stack
 unfold zIC zHO
 rw [zXe (by omega),bnd_some,zAc (by simp only [cP,eK];omega),bnd_some]
 refine (zK3 (L:=zE5 fu l l.Stack) (l.Stack++[l.Back]) (fun q=>q.all (inL l)) (some true) (fun i hi k=>?_) (fun k=>?_) (by simp;omega)).trans ?_
 ·have hy:(l.Stack++[l.Back])[i].length<=B:=by
   rcases cA.1 (gC hi) with j | j
   ·exact h.lists _ j
   ·rw [e8.1 j];exact h.back
  have e:i<=B:=by simp at hi;omega
  simp only [zE5]
  rw [zAP (decide_eq_true (Int.ofNat_lt.2 hi)),zAQ hi,bnd_some,zd8 hB hfu hy e]
 ·simp only [zE5]
  rw [zAO (by simp)]
 ·cases (l.Stack++[l.Back]).all fun q=>q.all (inL l)<;>rfl
omit hfu in
theorem own_l (h:LS B l):zKW fu l=some l:=by
 have:=h.todos
 have:=h.stack
 have:=h.back
 unfold zKW
 rw [zcy (by omega),bnd_some,zXe (by omega),bnd_some,zaF (by omega),bnd_some]
def zft (l:Line):Line:=⟨l.Todos++[[]],l.Stack,l.Back,l.Busy⟩
omit hfu in
theorem zfu (h:LS B l):zJI fu l=some (zft l):=by
 have:=h.todos
 unfold zJI
 rw [own_l hB h,bnd_some,zAc (by simp only [cP,eK];omega),bnd_some]
 rfl
def zQP (l:Line) (n:Int) (t:Todo):Line×Bool :=
 if l.Stack=[] then (⟨l.Todos.set n.toNat ((l.Todos[n.toNat]?).getD []++[t]),l.Stack,l.Back++[n],true⟩,!l.Busy)
 else (⟨l.Todos.set n.toNat ((l.Todos[n.toNat]?).getD []++[t]),l.Stack.set (l.Stack.length - 1) ((l.Stack[l.Stack.length - 1]?).getD []++[n]),l.Back,l.Busy⟩,false)
theorem add_ok (h:LS B l) {n:Int} {t:Todo} (hr:zHO l=true) (j:inL l n=true):zMf fu l n t=some ((zQP l n t).1,(zQP l n t).2,0):=by
 have C:=h.todos
 have D:=h.stack
 have E:=h.back
 unfold inL at j
 simp only [lM,decide_eq_true_eq] at j
 obtain ⟨i,rfl⟩:∃i:Nat,n=(i:Int):=⟨n.toNat,by omega⟩
 have hi:i<l.Todos.length:=by omega
 have e:inL l (i:Int)=true:=by unfold inL;simp only [lM,decide_eq_true_eq];omega
 have F:=h.todo _ (gC hi)
 unfold zMf zQP
 rw [zVN hB hfu h,bnd_some,hr,iA,cnd_false,in_ok,bnd_some,e,iA,cnd_false,own_l hB h,bnd_some,zAQ hi,bnd_some,zfb (by omega),bnd_some,zAc (by simp only [cP,eK];omega),bnd_some,bnd_some,
  zKD (by simp only [lo,Go.Pw.hi];omega),bnd_some,eO,lC hi,cM,zAM]
 by_cases hs:l.Stack=[]
 ·rw [iN (by rw [hs];simp),iP hs,zAc (by simp only [cP,eK];omega),bnd_some]
 ·have q:0<l.Stack.length:=List.length_pos_iff.2 hs
  have u:(l.Stack.length:Int) - 1=((l.Stack.length - 1:Nat):Int):=by omega
  have hl:l.Stack.length - 1<l.Stack.length:=by omega
  have G:=h.lists _ (gC hl)
  rw [iP (by omega),iN hs,u,zAQ hl,bnd_some,zaF (by omega),bnd_some,zAc (by simp only [cP,eK];omega),bnd_some,bnd_some,eO,lC hl,cM]
end
theorem zOK:(zQP l n t).1.Todos.length=l.Todos.length:=by
 unfold zQP;split<;>simp
theorem zQa {m:Line} (h:m.Todos.length=l.Todos.length):inL m=inL l:=by
 funext n;unfold inL;rw [h]
theorem zSO (hr:zHO l=true) (j:inL l n=true):zHO (zQP l n t).1=true:=by
 unfold zHO at hr ⊢
 rw [zQa zOK]
 rw [lR] at hr ⊢
 intro q i
 unfold zQP at i
 split at i
 ·simp only [cA,e8] at i
  rcases i with h | rfl
  ·exact hr q (by simp [h])
  ·rw [kZ,hr l.Back (by simp)]
   simp [j]
 ·simp only [cA,e8] at i
  rcases i with h | rfl
  ·rcases dT h with h | rfl
   ·exact hr q (by simp [h])
   ·rw [kZ]
    have:(((l.Stack[l.Stack.length - 1]?).getD []).all (inL l))=true:=by
     cases e:l.Stack[l.Stack.length - 1]? with
     | none=>rfl
     | some a=>exact hr a (by simp [lU e])
    rw [this];simp [j]
  ·exact hr l.Back (by simp)
theorem zSP {B:Nat} (h:LS B l):LS (B+1) (zQP l n t).1:=by
 have q:=h.todos
 have u:=h.stack
 have C:=h.back
 have j:((l.Todos[n.toNat]?).getD []).length<=B:=by
  cases e:l.Todos[n.toNat]? with
  | none=>simp
  | some a=>exact h.todo a (lU e)
 have i:∀x∈l.Todos.set n.toNat ((l.Todos[n.toNat]?).getD []++[t]),x.length<=B+1:=fun x hx=>by
  rcases dT hx with hx | rfl
  ·have:=h.todo x hx;omega
  ·simp only [eR,cP,eK];omega
 unfold zQP
 split
 ·exact ⟨by simp;omega,i,by simp only;omega,fun x hx=>by have:=h.lists x hx;omega,by simp;omega⟩
 ·refine ⟨by simp;omega,i,by simp;omega,fun x hx=>?_,by simp only;omega⟩
  rcases dT hx with hx | rfl
  ·have:=h.lists x hx;omega
  ·simp only [eR,cP,eK]
   have:((l.Stack[l.Stack.length - 1]?).getD []).length<=B:=by
    cases e:l.Stack[l.Stack.length - 1]? with
    | none=>simp
    | some a=>exact h.lists a (lU e)
   omega
end
section
def zdL (h:Hook):Bool:=decide (1<=h.Kind)&&(decide (h.Kind<=8)&&decide (h.Do.length<=60))
def zMj (c:Class):Bool:=decide (c.Watch.length<=12)&&(c.Watch.all zWl&&(decide (c.Hooks.length<=12)&&(c.Hooks.all zdL&&(decide (c.Peek.length<=60)&&decide (c.Make.length<=60)))))
theorem zWx {fu:Nat} {l:List Op}:zGx fu l=some (!(decide (l.length<=60))):=by
 unfold zGx
 congr 1
 by_cases h:l.length<=60
 ·rw [decide_eq_true h,decide_eq_false (by omega)];rfl
 ·rw [decide_eq_false h,decide_eq_true (by omega)];rfl
theorem zFJ {e : Type} (l:List e) (p : e -> Bool):(l.any fun x => !(p x)) = !(l.all p):=by
 rw [List.all_eq_not_any_not,kI]
theorem zYm {fu:Nat} {c:Class} (hfu:1000<fu):zHM fu c=some (zMj c):=by
 unfold zHM zMj
 rw [zAM]
 by_cases j:c.Watch.length<=12
 ·rw [iP (by omega),decide_eq_true j,iD]
  rw [zQG (p:=fun s => !(zWl s)) (fun s _=>by
   unfold zDU zWl
   rw [zSf (by omega),bnd_some]
   cases zFb s with
   | false=>rfl
   | true =>
    simp only [if_true,iD]
    cases s.map zGJ==s<;>rfl) (by omega) (by omega),bnd_some,zFJ,kI]
  cases c.Watch.all zWl with
  | false=>rfl
  | true =>
   rw [cnd_true,iD,zAM]
   by_cases q:c.Hooks.length<=12
   ·rw [iP (by omega),decide_eq_true q,iD]
    rw [zPB (p:=fun h => !(zdL h)) (fun h _=>by
     unfold zDV zdL
     rw [zAM,zAM,zWx,bnd_some]
     by_cases e:h.Kind<1
     ·rw [iP e,decide_eq_false (show ¬1<=h.Kind by omega)];rfl
     ·rw [iN e,decide_eq_true (show 1<=h.Kind by omega)]
      by_cases i:h.Kind>8
      ·rw [iP i,decide_eq_false (show ¬h.Kind<=8 by omega)];rfl
      ·rw [iN i,decide_eq_true (show h.Kind<=8 by omega)];rfl) (by omega) (by omega),bnd_some,zFJ,kI,zWx,zWx,bnd_some,bnd_some]
    cases c.Hooks.all zdL with
    | false=>rfl
    | true =>
     cases decide (c.Peek.length<=60) with
     | false=>rfl
     | true=>simp
   ·rw [iN (by omega),decide_eq_false q];rfl
 ·rw [iN (by omega),decide_eq_false j];rfl
def zMm (w:World):Bool:=decide (w.Classes.length<=12)&&(w.Classes.all zMj&&w.Desk.Defs.all fun d=>decide (d.Class<(w.Classes.length:Int)))
theorem zYy {fu:Nat} {w:World} (hfu:1000<fu) (hl:w.Desk.Defs.length<=900):zEK fu ⟨w⟩=some (zMm w):=by
 unfold zEK zMm
 simp only
 rw [zAM]
 by_cases e:w.Classes.length<=12
 ·rw [iP (by omega),decide_eq_true e,iD,zOU (p:=fun c => !(zMj c)) (fun c _=>by unfold zBm;rw [zYm hfu,bnd_some]) (by omega) (by omega),bnd_some,zFJ,kI,
   zQE (p:=fun d => !(decide (d.Class<(w.Classes.length:Int)))) (fun d _=>by
    unfold zBn
    simp only
    congr 1
    by_cases h:d.Class<(w.Classes.length:Int)
    ·rw [decide_eq_true h,decide_eq_false (by omega)];rfl
    ·rw [decide_eq_false h,decide_eq_true (by omega)];rfl) (by omega) (by omega),bnd_some,zFJ,kI]
  cases w.Classes.all zMj<;>rfl
 ·rw [iN (by omega),decide_eq_false e];rfl
def ltI (n:Nat) (k:Int):Bool:=decide (0<=k)&&decide (k<(n:Int))
theorem zWz (n:Nat) (k:Int):cnd (decide (k>=0)) (some (decide (k<((n:Nat):Int)))) (some false)=some (ltI n k):=by
 unfold ltI
 rw [zAM]
 by_cases h:k>=0
 ·rw [iP h,decide_eq_true (show 0<=k from h),iD]
 ·rw [iN h,decide_eq_false (show ¬0<=k from h),jD]
theorem zLZ {n:Nat} {k:Int}:ltI n k=true↔0<=k/\k<(n:Int):=by
 unfold ltI;simp
def zJd (e:Nat) (t:Todo):Bool:=(decide (1<=t.Kind)&&decide (t.Kind<9))||(t.Kind==9&&ltI e t.Def)
def zLq (h e:Nat) (x:Node) (s:State):Bool :=
 if x.Kind=1 then (s.Owner == -1||ltI h s.Owner)&&(if s.Phase=2\/s.Phase=3 then ltI e s.Def else if s.Phase=0\/s.Phase=1\/s.Phase=4 then s.Def == -1||ltI e s.Def else false)
 else zaZ s ⟨0,-1,-1,false⟩
def zVx (e:Nat) (t:Task):Bool:=(t.Kind==1&&(t.Ticket==0&&t.Def==0))||(t.Kind==2&&(decide (0<=t.Ticket)&&ltI e t.Def))
def zOO (ns:List Node) (e:Nat) (b:Build):Bool:=ltI e b.Def&&(b.Node == -4||isB ns b.Node 1)
section
variable {fu:Nat} {w:World}
theorem zRx (k:Int):zCF fu ⟨w⟩ k=some (ltI w.Desk.Defs.length k):=zWz _ _
theorem zUX (k:Int):zEM fu ⟨w⟩ k=some (ltI w.Forest.Nodes.length k):=zWz _ _
theorem zYg (t:Todo):zEN fu ⟨w⟩ t=some (zJd w.Desk.Defs.length t):=by
 unfold zEN zJd
 rw [zRx,bnd_some,zAM,zAM,zAd]
 by_cases e:t.Kind>=1
 ·rw [iP e,decide_eq_true (show 1<=t.Kind from e),iD]
  by_cases h:t.Kind<9
  ·rw [iP h,decide_eq_true h,Bool.true_or]
  ·rw [iN h,decide_eq_false h,e9]
   by_cases i:t.Kind=9
   ·rw [iP i,i];rfl
   ·rw [iN i,show (t.Kind==9)=false by simpa using i];rfl
 ·rw [iN e,iN (by omega),decide_eq_false (show ¬1<=t.Kind from e),show (t.Kind==9)=false by simp;omega];rfl
theorem zcW {s:State} (hs:idx w.States n=some s) (hx:idx w.Forest.Nodes n=some x):zFH fu ⟨w⟩ n=some (zLq w.Forest.Nodes.length w.Desk.Defs.length x s):=by
 have j3:∀o t,zCe fu ⟨w⟩ s o t=some (t&&(o&&(s.Def == -1||ltI w.Desk.Defs.length s.Def))):=fun o t=>by
  unfold zCe
  rw [zRx,bnd_some]
  cases t<;>cases o<;>cases s.Def == -1<;>rfl
 have j2:∀o t,zDD fu ⟨w⟩ s o t=some (if t=true then o&&ltI w.Desk.Defs.length s.Def else o&&((s.Phase==0||(s.Phase==1||s.Phase==4))&&(s.Def == -1||ltI w.Desk.Defs.length s.Def))):=fun o t=>by
  unfold zDD
  rw [zRx,bnd_some,j3,j3,j3]
  cases t with
  | true=>cases o<;>rfl
  | false =>
   cases s.Phase==0<;>cases s.Phase==1<;>cases s.Phase==4<;>cases o<;>rfl
 have j1:∀o,zDC fu ⟨w⟩ s o=some (o&&(if s.Phase=2\/s.Phase=3 then ltI w.Desk.Defs.length s.Def else if s.Phase=0\/s.Phase=1\/s.Phase=4 then s.Def == -1||ltI w.Desk.Defs.length s.Def else false)):=fun o=>by
  unfold zDC
  rw [j2,j2,zAd]
  by_cases e:s.Phase=2
  ·rw [iP e,iP (by simpa using e),iP (.inl e)]
  ·rw [iN e]
   by_cases j:s.Phase=3
   ·rw [iP (by simpa using j),iP (.inr j)]
   ·rw [iN (by simpa using j),iN (by omega)]
    by_cases q:s.Phase=0
    ·rw [q];simp
    ·by_cases u:s.Phase=1
     ·rw [u];simp
     ·by_cases C:s.Phase=4
      ·rw [C];simp
      ·rw [iN (by omega),show (s.Phase==0)=false by simpa using q,show (s.Phase==1)=false by simpa using u,show (s.Phase==4)=false by simpa using C]
       simp
 unfold zFH zLq
 simp only
 rw [hs,bnd_some,hx,bnd_some,zAe,j1,zUX,bnd_some,j1,zAd]
 by_cases h:x.Kind=1
 ·rw [iP h,iP h]
  by_cases i:s.Owner = -1
  ·rw [iP i,i];rfl
  ·rw [iN i,show (s.Owner == -1)=false by simpa using i,e9]
 ·rw [iN h,iN h]
theorem zea (t:Task):zFa fu ⟨w⟩ t=some (zVx w.Desk.Defs.length t):=by
 unfold zFa zVx
 rw [zRx,bnd_some,zAd,zAd,zAd,zAM]
 by_cases h:t.Kind=1
 ·rw [iP h,h]
  by_cases e:t.Ticket=0
  ·rw [iP e,e];simp
  ·rw [iN e,show (t.Ticket==0)=false by simpa using e];rfl
 ·rw [iN h,show (t.Kind==1)=false by simpa using h,jD,e9]
  by_cases e:t.Kind=2
  ·rw [iP e,e]
   by_cases i:t.Ticket>=0
   ·rw [iP i,decide_eq_true (show 0<=t.Ticket from i)];rfl
   ·rw [iN i,decide_eq_false (show ¬0<=t.Ticket from i)];rfl
  ·rw [iN e,show (t.Kind==2)=false by simpa using e];rfl
theorem zcB (b:Build):zFG fu ⟨w⟩ b=some (zOO w.Forest.Nodes w.Desk.Defs.length b):=by
 have j1:∀e,zDB fu ⟨w⟩ b e=some (ltI w.Desk.Defs.length b.Def&&(b.Node == -4||e)):=fun e=>by
  unfold zDB
  rw [zRx,bnd_some]
  cases ltI w.Desk.Defs.length b.Def<;>cases b.Node == -4<;>rfl
 unfold zFG zOO
 rw [zUX,bnd_some,j1]
 cases h:ltI w.Forest.Nodes.length b.Node with
 | true =>
  obtain ⟨x,hx⟩:=zAI (zLZ.1 h)
  rw [cnd_true]
  simp only
  rw [hx,bnd_some,j1]
  unfold isB
  rw [hx]
 | false =>
  have:idx w.Forest.Nodes b.Node=none:=zCW fun i=>by
   have:=zLZ.2 i
   rw [h] at this;cases this
  rw [cnd_false]
  unfold isB
  rw [this]
end
structure WS (B:Nat) (w:World):Prop where
 line:LS B w.Line
 tasks:w.Tasks.length<=B
 builds:w.Builds.length<=B
 defs:w.Desk.Defs.length<=900
 waits:w.Desk.Waits.length<=900
 kids:∀x∈w.Forest.Nodes,x.Kids.length<=2000
 states:w.States.length<=B
def zeu (w:World) (i:Nat):Bool:=(match w.States[i]?,w.Forest.Nodes[i]? with | some s,some x=>zLq w.Forest.Nodes.length w.Desk.Defs.length x s | _,_=>false)&&((w.Line.Todos[i]?).getD []).all (zJd w.Desk.Defs.length)
def zTF (w:World):Bool:=decide (w.States.length=w.Forest.Nodes.length)&&(decide (w.Line.Todos.length=w.Forest.Nodes.length)&&(zMm w&&(zAG w.Forest&&(zKn w.Desk&&(zHO w.Line&&((cW w.Line.Todos.length).all (zeu w)&&(w.Tasks.all (zVx w.Desk.Defs.length)&&w.Builds.all (zOO w.Forest.Nodes w.Desk.Defs.length))))))))
theorem zR0 {fu B:Nat} {w:World} (h:WS B w) (hB:B<=1000000000) (hfu:B+10000<fu):zCq fu ⟨w⟩=some (zTF w):=by
 have hl:=h.line.todos
 have q:zEU fu w.Forest.Nodes:=fun x hx=>by have:=h.kids x hx;omega
 have fin:zBs fu ⟨w⟩ fu 0=(bif (cW w.Line.Todos.length).all (zeu w) then some (w.Tasks.all (zVx w.Desk.Defs.length)&&w.Builds.all (zOO w.Forest.Nodes w.Desk.Defs.length)) else some false)\/w.States.length≠w.Forest.Nodes.length\/w.Line.Todos.length≠w.Forest.Nodes.length:=by
  by_cases e:w.States.length=w.Forest.Nodes.length
  ·by_cases j:w.Line.Todos.length=w.Forest.Nodes.length
   ·left
    refine zUU (L:=zBs fu ⟨w⟩) w.Line.Todos.length (zeu w) (some (w.Tasks.all (zVx w.Desk.Defs.length)&&w.Builds.all (zOO w.Forest.Nodes w.Desk.Defs.length))) (fun i hi k=>?_) (fun k=>?_) (by omega)
    ·have hs:i<w.States.length:=by omega
     have hx:i<w.Forest.Nodes.length:=by omega
     have D:=h.line.todo _ (gC hi)
     simp only [zBs]
     rw [zAP (by simpa using hi),zAQ hi,bnd_some,zcW (zAQ hs) (zAQ hx),bnd_some,zPD (p:=fun t => !(zJd w.Desk.Defs.length t)) (fun t _=>by unfold zCG;rw [zYg,bnd_some]) (by omega) (by omega),bnd_some,zFJ,zAf (by omega),bnd_some]
     unfold zeu
     rw [lC hs,lC hx,lC hi,cM]
     simp only
     cases zLq w.Forest.Nodes.length w.Desk.Defs.length w.Forest.Nodes[i] w.States[i] with
     | false=>rfl
     | true=>cases w.Line.Todos[i].all (zJd w.Desk.Defs.length)<;>rfl
    ·have u:=h.tasks
     have C:=h.builds
     simp only [zBs]
     rw [zAO (by simp),zPC (p:=fun t => !(zVx w.Desk.Defs.length t)) (fun t _=>by unfold zCH;rw [zea,bnd_some]) (by omega) (by omega),bnd_some,zFJ,kI,
      zOT (p:=fun t => !(zOO w.Forest.Nodes w.Desk.Defs.length t)) (fun t _=>by unfold zCI;rw [zcB,bnd_some]) (by omega) (by omega),bnd_some,zFJ,kI]
     cases w.Tasks.all (zVx w.Desk.Defs.length)<;>rfl
   ·exact .inr (.inr j)
  ·exact .inr (.inl e)
 unfold zCq zTF
 simp only
 rw [zAe,zAe,zYy (by omega) h.defs,bnd_some,zEo (by omega) q,bnd_some,zRH (by omega) h.defs h.waits,bnd_some,zVN hB (by omega) h.line,bnd_some]
 by_cases e:w.States.length=w.Forest.Nodes.length
 ·rw [iP (by omega),decide_eq_true e,iD]
  by_cases j:w.Line.Todos.length=w.Forest.Nodes.length
  ·rw [iP (by omega),decide_eq_true j,iD]
   have:=fin.resolve_right (by omega)
   rw [this]
   cases zMm w with
   | false=>rfl
   | true =>
    cases zAG w.Forest with
    | false=>rfl
    | true =>
     cases zKn w.Desk with
     | false=>rfl
     | true =>
      cases zHO w.Line with
      | false=>rfl
      | true=>cases (cW w.Line.Todos.length).all (zeu w)<;>rfl
  ·rw [iN (by omega),decide_eq_false j];rfl
 ·rw [iN (by omega),decide_eq_false e];rfl
theorem zUq {fu B:Nat} {w:World} (h:WS B w) (hB:B<=1000000000) (hfu:B+10000<fu):zF3 fu w=some (zTF w):=by
 unfold zF3
 rw [zR0 h hB hfu,bnd_some]
end
section
theorem zX3 [DecidableEq κ] {l:List (κ × ν)} {k : κ}:zKu l k=true↔k∈l.map (·.1):=by
 unfold zKu
 induction l with
 | nil=>simp [zHt]
 | cons x l j =>
  simp only [zHt,lT,List.mem_cons]
  by_cases h:x.1=k
  ·simp [h]
  ·rw [iN h,Option.isSome_map,j]
   exact ⟨.inr,fun i=>i.resolve_left fun e=>h e.symm⟩
theorem zdX [DecidableEq κ] {l:List (κ × ν)} {k j : κ} {v : ν}:zKu (zGz l k v) j=(decide (k=j)||zKu l j):=by
 rw [eW,dD,decide_eq_true_eq,zX3,zX3]
 rcases zRa l k v with ⟨q,i⟩ | ⟨_,i⟩
 ·rw [i]
  exact ⟨.inr,fun h=>h.elim (fun e=>e▸q) id⟩
 ·rw [i,cA,e8]
  exact ⟨fun h=>h.elim .inr fun e=>.inl e.symm,fun h=>h.elim (fun e=>.inr e.symm) .inl⟩
def zMT (c:Class) (k:Int):Bool:=c.Hooks.any fun h=>h.Kind==k
theorem zar {c:Class} {k:Int}:∀(i:Nat) (l:List (Int×Hook)),i<=c.Hooks.length->∃j,zGT c i l=some j/\zKu j k=(zKu l k||(c.Hooks.take i).any fun h=>h.Kind==k)
 | 0,l,_=>⟨l,rfl,by simp⟩
 | i+1,l,hi=>by
  have h:i<c.Hooks.length:=by omega
  obtain ⟨j,q,u⟩:=zar (c:=c) (k:=k) i (zGz l c.Hooks[i].Kind c.Hooks[i]) (by omega)
  refine ⟨j,?_,?_⟩
  ·simp only [zGT]
   rw [lC h,bnd_some,q]
  ·rw [u,zdX,iE h,List.any_append]
   have e:(decide (c.Hooks[i].Kind=k))=(c.Hooks[i].Kind==k):=rfl
   simp only [List.any_cons,List.any_nil,Bool.or_false,e]
   cases c.Hooks[i].Kind==k<;>cases zKu l k<;>simp
theorem zTn {fu:Nat} {c:Class} {k:Int}:zF2 fu c k=some (zMT c k):=by
 obtain ⟨i,e,h⟩:=zar (c:=c) (k:=k) c.Hooks.length [] (cB _)
 unfold zF2 zLR
 rw [e,bnd_some,h,iI]
 simp [zMT,zKu,zHt]
def zQk (c:Class) (s:Bs):Bool:=zMT c 4&&c.Watch.contains s
theorem zZY {fu:Nat} {c:Class} {s:Bs} (hfu:1000<fu) (e:c.Watch.length<=12):zHL fu c s=some (zQk c s):=by
 unfold zHL zQk
 rw [zTn,bnd_some,zJ8 (by omega) (by omega),bnd_some]
 cases zMT c 4<;>rfl
def zKK (s:State) (defs:List Def) (cs:List Class):Option Class:=match idx defs s.Def with
 | some y=>idx cs y.Class
 | none=>none
def class0:Class:=⟨false,[],[],[],[]⟩
theorem zXd {fu:Nat} {s:State} {d:Desk} {cs:List Class}:zHK fu s d cs=some (match zKK s d.Defs cs with | some c=>(c,true) | none=>(class0,false)):=by
 unfold zHK zKK
 rw [zAM,zAM]
 by_cases e:s.Def<0
 ·rw [iP e,zCW (by omega)];rfl
 ·rw [iN e]
  by_cases h:s.Def>=(d.Defs.length:Int)
  ·rw [iP h,zCW (by omega)];rfl
  ·obtain ⟨y,hy⟩:=zAI (l:=d.Defs) (n:=s.Def) (by omega)
   rw [iN h,hy,bnd_some,zAM,zAM]
   simp only
   by_cases i:y.Class<0
   ·rw [iP i,zCW (by omega)];rfl
   ·rw [iN i]
    by_cases j:y.Class>=(cs.length:Int)
    ·rw [iP j,zCW (by omega)];rfl
    ·obtain ⟨c,q⟩:=zAI (l:=cs) (n:=y.Class) (by omega)
     rw [iN j,q,bnd_some]
theorem zWd {s:State} {cs:List Class} {c:Class} (h:zKK s defs cs=some c):c∈cs:=by
 unfold zKK at h
 split at h
 ·exact zEp h
 ·cases h
theorem zLU {s:State} {cs:List Class}:zKK s [] cs=none:=by
 unfold zKK
 rw [zCW (by simp only [eK];omega)]
def zf8 (x:Note):Todo:=⟨x.Kind,0,x.Name,x.Had,x.Has,x.Old,x.New,x.From,x.To,false⟩
def zfH (f:Forest) (st:List State) (d:Desk) (cs:List Class) (x:Note):Option Todo:=match idx st x.Node,idx f.Nodes x.Node with
 | some s,some y=>if s.Phase=1 then (if x.Kind=1/\zL0 y d ≠ -1 then some (zgw (zL0 y d)) else none)
  else if s.Phase=3 then (match zKK s d.Defs cs with
   | some c=>if ((x.Kind=4/\zQk c x.Name=true)\/x.Kind=1\/x.Kind=2\/x.Kind=3)/\zMT c x.Kind=true then some (zf8 x) else none
   | none=>none)
  else none
 | _,_=>none
section
variable {fu:Nat} {f:Forest} {st:List State} {d:Desk} {cs:List Class} (hfu:1000<fu) (hr:zAG f=true) (hl:d.Defs.length<=900) (hw:d.Waits.length<=900) (hcs:∀c∈cs,c.Watch.length<=12) (hst:st.length=f.Nodes.length)
include hfu hr hl hw hcs hst
theorem zfI {x:Note} (I:InN f.Nodes x.Node):∃r,zFE fu ⟨f,st,d,cs⟩ x=some r/\(if r.2=true then some r.1 else none)=zfH f st d cs x:=by
 obtain ⟨y,hy⟩:=zAI I
 obtain ⟨s,hs⟩:=zAI (l:=st) (n:=x.Node) (by rw [hst];exact I)
 have j1:∀(c:Class) (b ok:Bool),zBS fu x (c,b) ok=some (zf8 x,ok&&zMT c x.Kind):=fun c b ok=>by
  unfold zBS
  simp only
  rw [zTn,bnd_some]
  cases ok<;>rfl
 unfold zFE zfH
 simp only
 rw [hs,bnd_some,hy,zAd]
 simp only
 by_cases j:s.Phase=1
 ·rw [iP j,iP j,zZj hfu hl hw hr,bnd_some,hy]
  simp only
  rw [zAd]
  by_cases u:x.Kind=1
  ·rw [iP u]
   refine ⟨_,rfl,?_⟩
   simp only
   by_cases hf:zL0 y d = -1
   ·rw [hf];simp
   ·have:(zL0 y d != -1)=true:=by simpa using hf
    rw [this,iP rfl,iP ⟨u,hf⟩];rfl
  ·rw [iN u]
   refine ⟨_,rfl,?_⟩
   simp only
   rw [iN (by simp),iN fun h=>u h.1]
 ·rw [iN j,iN j,zAd]
  by_cases q:s.Phase=3
  ·rw [iP q,iP q,zXd,bnd_some]
   cases M:zKK s d.Defs cs with
   | none =>
    simp only [j1]
    have e:∀t:Todo,∃r,some (t,false)=some r/\(if r.2=true then some r.1 else none)=(none:Option Todo):=fun t=>⟨_,rfl,by simp⟩
    have i:∀(b:Bool) (F G:Option (Todo×Bool)),(∃r,F=some r/\(if r.2=true then some r.1 else none)=(none:Option Todo))->(∃r,G=some r/\(if r.2=true then some r.1 else none)=(none:Option Todo))->∃r,cnd b F G=some r/\(if r.2=true then some r.1 else none)=(none:Option Todo):=fun b F G J K=>by
     cases b
     ·exact K
     ·exact J
    simp only [cnd_false,jD]
    exact i _ _ _ (e _) (i _ _ _ (i _ _ _ (e _) (e _)) (i _ _ _ (i _ _ _ (e _) (e _)) (i _ _ _ (e _) (e _))))
   | some c =>
    simp only [j1,zZY hfu (hcs c (zWd M)),bnd_some,cnd_true,iD,zAd]
    by_cases k4:x.Kind=4
    ·rw [iP k4]
     refine ⟨_,rfl,?_⟩
     simp only
     rw [k4]
     cases zQk c x.Name<;>cases zMT c 4<;>simp
    ·rw [iN k4]
     by_cases C:x.Kind=1
     ·rw [iP C,iP C]
      refine ⟨_,rfl,?_⟩
      rw [C]
      cases zMT c 1<;>simp
     ·rw [iN C]
      by_cases D:x.Kind=2
      ·rw [iP D,iP D]
       refine ⟨_,rfl,?_⟩
       rw [D]
       cases zMT c 2<;>simp
      ·rw [iN D]
       by_cases E:x.Kind=3
       ·rw [iP E]
        refine ⟨_,rfl,?_⟩
        rw [E]
        cases zMT c 3<;>simp
       ·rw [iN E]
        refine ⟨_,rfl,?_⟩
        rw [iN (by simp),iN (by omega)]
  ·rw [iN q,iN q]
   exact ⟨_,rfl,by simp⟩
def zU8 (f:Forest) (st:List State) (d:Desk) (cs:List Class) (notes:List Note):List Due:=notes.filterMap fun x=>if isB f.Nodes x.Node 1=true then (zfH f st d cs x).map fun t=>⟨x.Node,t⟩ else none
theorem due_ok (P:zKn d=true) (W:notes.length<=100000000) (I:notes.length<fu):zLQ fu f st d cs notes=some (zU8 f st d cs notes):=by
 unfold zLQ zML
 rw [show ((st.length:Int)==(f.Nodes.length:Int))=true by rw [hst];simp,cnd_true,zEo hfu ((zAE hr).fit hfu),bnd_some,hr,cnd_true,zRH hfu hl hw,bnd_some,P,bnd_some]
 simp only [iA,cnd_false]
 have N:∀(j i k:Nat) (q:List Due),i+j=notes.length->j<k->q.length<=i->zEt fu notes (⟨f,st,d,cs⟩,true) k ((i:Int),q)=some (q++zU8 f st d cs (notes.drop i)):=by
  intro j
  induction j with
  | zero =>
   intro i k q hi Q _
   obtain ⟨k,rfl⟩:∃M,k=M+1:=⟨k - 1,by omega⟩
   obtain rfl:i=notes.length:=by omega
   simp only [zEt]
   rw [zAO (by simp),kK]
   simp [zU8]
  | succ j K =>
   intro i k q hi Q V
   obtain ⟨k,rfl⟩:∃M,k=M+1:=⟨k - 1,by omega⟩
   have h:i<notes.length:=by omega
   have G:zFF fu ⟨f,st,d,cs⟩ notes[i].Node=some (isB f.Nodes notes[i].Node 1):=by
    unfold zFF isB
    simp only
    rw [zAM,zAM]
    by_cases C:notes[i].Node>=0
    ·rw [iP C]
     by_cases D:notes[i].Node<(f.Nodes.length:Int)
     ·obtain ⟨x,hx⟩:=zAI (l:=f.Nodes) (n:=notes[i].Node) ⟨C,D⟩
      rw [iP D,hx,bnd_some]
     ·rw [iN D,zCW (by omega)]
    ·rw [iN C,zCW (by omega)]
   have F:zU8 f st d cs (notes.drop i)=(match (if isB f.Nodes notes[i].Node 1=true then (zfH f st d cs notes[i]).map (fun t=>(⟨notes[i].Node,t⟩:Due)) else none) with | some u=>[u] | none=>[])++zU8 f st d cs (notes.drop (i+1)):=by
    rw [eT h]
    unfold zU8
    rw [kR]
    split
    ·rename_i e;rw [e];rfl
    ·rename_i e;rw [e];rfl
   simp only [zEt]
   rw [zAP (by simpa using h),zAQ h,bnd_some,G,bnd_some,F]
   cases E:isB f.Nodes notes[i].Node 1 with
   | false =>
    rw [jL,cnd_true,zAf (by omega),bnd_some,K (i+1) k q (by omega) (by omega) (by omega)]
    rfl
   | true =>
    have J:InN f.Nodes notes[i].Node:=by
     unfold isB at E
     cases e:idx f.Nodes notes[i].Node with
     | none=>rw [e] at E;cases E
     | some z=>exact zAH e
    obtain ⟨r,S,T⟩:=zfI hfu hr hl hw hcs hst J
    rw [iA,cnd_false,S,bnd_some,iP rfl,<- T]
    cases r.2 with
    | true =>
     rw [cnd_true,zAc (by simp only [cP,eK];omega),bnd_some,zAf (by omega),bnd_some,K (i+1) k _ (by omega) (by omega) (by simp only [eR,cP,eK];omega),eS]
     rfl
    | false =>
     rw [cnd_false,zAf (by omega),bnd_some,K (i+1) k q (by omega) (by omega) (by omega)]
     rfl
 have:=N notes.length 0 fu [] (by omega) I (by simp)
 simpa using this
end
theorem zXj {f:Forest} {st:List State} {d:Desk} {cs:List Class}:(zU8 f st d cs notes).length<=notes.length:=kL _ _
theorem zaV {f:Forest} {st:List State} {d:Desk} {cs:List Class} {u:Due} (h:u∈zU8 f st d cs notes):isB f.Nodes u.Node 1=true/\zJd d.Defs.length u.Todo=true/\∃x∈notes,u.Node=x.Node/\zfH f st d cs x=some u.Todo:=by
 unfold zU8 at h
 obtain ⟨x,hx,i⟩:=kM.1 h
 split at i
 ·rename_i j
  obtain ⟨t,e,rfl⟩:=lI.1 i
  refine ⟨j,?_,x,hx,rfl,e⟩
  unfold zfH at e
  split at e
  ·split at e
   ·split at e
    ·rename_i hf
     cases e
     have:=zOY.resolve_left hf.2
     unfold zJd zgw
     simp only [dD,lM]
     right
     exact ⟨rfl,zLZ.2 this⟩
    ·cases e
   ·split at e
    ·split at e
     ·split at e
      ·rename_i q
       cases e
       unfold zJd zf8
       simp only [dD,lM,decide_eq_true_eq]
       left
       have:=q.1
       omega
      ·cases e
     ·cases e
    ·cases e
  ·cases e
 ·cases i
end
section
def zZf (ns:List Node) (ids:List (Int×List (Bs×Int))):Prop:=∀p∈ids,∀q∈p.2,InN ns q.2
def zPd (ns:List Node) (r:Int):Prop:=r = -1\/InN ns r
theorem zWn {fu:Nat}:∃b,zGs fu x=some b:=by
 unfold zGs
 rw [zAd];split<;>exact ⟨_,rfl⟩
section
variable {fu:Nat} {f:Forest} (hr:zAG f=true) (hfu:1000<fu)
include hr
theorem near_l:∀n,InN f.Nodes n->∀K,(way f.Nodes n).length<K->∃r,zBr fu f.Nodes K n=some r/\zPd f.Nodes r:=by
 have T:=zBD hr
 refine T.up_ind fun n h C K e=>?_
 obtain ⟨K,rfl⟩:∃j,K=j+1:=⟨K - 1,by omega⟩
 obtain ⟨x,hx⟩:=zAI h
 have q:n ≠ -1:=by unfold InN at h;omega
 obtain ⟨b,u⟩:=zWn (fu:=fu) (x:=x)
 rw [T.way_eq h] at e
 simp only [cP] at e
 simp only [zBr]
 rw [zAe,iN q,hx,bnd_some,u,bnd_some,bnd_some]
 cases b with
 | true=>exact ⟨n,rfl,.inr h⟩
 | false =>
  rw [cnd_false]
  by_cases i:zI5 f.Nodes n = -1
  ·rw [<- zIq hx,i]
   rw [iP i] at e
   obtain ⟨K,rfl⟩:∃j,K=j+1:=⟨K - 1,by simp at e;omega⟩
   simp only [zBr]
   rw [zAe,iP rfl]
   exact ⟨-1,rfl,.inl rfl⟩
  ·rw [<- zIq hx]
   rw [iN i] at e
   exact C i K (by omega)
include hfu
theorem zf6 (i:InN f.Nodes n):∃r,zDf fu f.Nodes n=some r/\zPd f.Nodes r:=by
 have T:=zBD hr
 have h:=(zAE hr).few
 obtain ⟨x,hx⟩:=zAI i
 unfold zDf
 rw [hx,bnd_some,<- zIq hx]
 by_cases j:zI5 f.Nodes n = -1
 ·rw [j]
  obtain ⟨K,rfl⟩:∃q,fu=q+1:=⟨fu - 1,by omega⟩
  simp only [zBr]
  rw [zAe,iP rfl]
  exact ⟨-1,rfl,.inl rfl⟩
 ·have e:=(T.par n i j).1
  have:=(T.way_len e).2
  exact near_l hr _ e fu (by omega)
omit hr in
theorem tree_l {C:Int} (Q:L.length<=1000) (E:∀k∈L,InN f.Nodes k) (J:zZf f.Nodes ids):∀(j i K:Nat) (t:List (Bs×Int)),i+j=L.length->j<K->(∀q∈t,InN f.Nodes q.2)->∃I e,zBR fu f.Nodes C ids L K ((i:Int),t)=some (I,e)/\(∀q∈I,InN f.Nodes q.2)/\zZf f.Nodes e:=by
 intro j
 induction j with
 | zero =>
  intro i K t hi M u
  obtain ⟨K,rfl⟩:∃D,K=D+1:=⟨K - 1,by omega⟩
  obtain rfl:i=L.length:=by omega
  simp only [zBR]
  rw [zAO (by simp)]
  refine ⟨_,_,rfl,u,fun p N=>?_⟩
  rcases zW2 N with h | rfl
  ·exact J p h
  ·exact u
 | succ j F =>
  intro i K t hi M u
  obtain ⟨K,rfl⟩:∃D,K=D+1:=⟨K - 1,by omega⟩
  have h:i<L.length:=by omega
  have G:=E _ (gC h)
  obtain ⟨x,hx⟩:=zAI G
  simp only [zBR]
  rw [zAP (by simpa using h),zAQ h,bnd_some,hx,bnd_some,zO6 (by omega),bnd_some,zAf (by omega)]
  simp only [bnd_some]
  cases (zcZ x.Attrs [105,100]).2 with
  | false=>exact F (i+1) K t (by omega) (by omega) u
  | true =>
   rw [cnd_true]
   cases zKu t (zcZ x.Attrs [105,100]).1 with
   | true=>exact F (i+1) K t (by omega) (by omega) u
   | false =>
    refine F (i+1) K _ (by omega) (by omega) fun q P=>?_
    rcases zW2 P with h | rfl
    ·exact u q h
    ·exact G
theorem zgu {e:Int} (i:InN f.Nodes e) (u:zZf f.Nodes ids):∃t j,zE8 fu f.Nodes f.Most e ids=some (t,j)/\(∀q∈t,InN f.Nodes q.2)/\zZf f.Nodes j:=by
 have T:=zBD hr
 have hs:=zAE hr
 have C:=hs.few
 unfold zE8
 cases h:zKu ids e with
 | true=>exact ⟨_,_,rfl,u _ (zTw h),u⟩
 | false =>
  have D:=T.all_len i
  rw [cnd_false,zTT (f:=⟨f.Nodes,f.Most⟩) hs hfu hr i,bnd_some]
  exact tree_l hfu (L:=zKT f.Nodes e) (by omega) (fun k E=>(T.all_in e i k E).1) u (zKT f.Nodes e).length 0 fu [] (by omega) (by omega) (by simp)
theorem of_ok (h:InN f.Nodes n) (j:zZf f.Nodes ids):∃r e,zEl fu f.Nodes f.Most n ids=some (r,e)/\zPd f.Nodes r/\zZf f.Nodes e:=by
 have T:=zBD hr
 have hs:=zAE hr
 obtain ⟨x,hx⟩:=zAI h
 obtain ⟨J,D,q⟩:=zf6 hr hfu h
 unfold zEl
 rw [hx,bnd_some,zAe,zO6 (by omega),bnd_some,D]
 simp only [bnd_some]
 by_cases u:x.Kind=1
 ·rw [iP u]
  cases (zcZ x.Attrs [102,111,114,109]).2 with
  | false=>exact ⟨_,_,rfl,q,j⟩
  | true =>
   rw [iA,cnd_false,zWB (f:=⟨f.Nodes,f.Most⟩) hs hfu hr h,bnd_some]
   cases zWf f.Nodes n with
   | false=>exact ⟨_,_,rfl,q,j⟩
   | true =>
    obtain ⟨t,e,E,F,i⟩:=zgu hr hfu (T.root_in h) j
    simp only [iA,cnd_false]
    rw [zZo (f:=⟨f.Nodes,f.Most⟩) hs hfu hr h,bnd_some,E,bnd_some]
    simp only
    cases I:zKu t (zcZ x.Attrs [102,111,114,109]).1 with
    | false=>exact ⟨_,_,rfl,.inl rfl,i⟩
    | true =>
     rw [iA,cnd_false]
     cases ((zcZ x.Attrs [102,111,114,109]).1==([]:Bs)) with
     | true=>exact ⟨_,_,rfl,.inl rfl,i⟩
     | false =>
      have C:=F _ (zTw (z:=0) I)
      obtain ⟨y,hy⟩:=zAI C
      obtain ⟨b,G⟩:=zWn (fu:=fu) (x:=y)
      rw [cnd_false]
      simp only at hy
      rw [hy,bnd_some,G,bnd_some]
      cases b with
      | false=>exact ⟨_,_,rfl,.inl rfl,i⟩
      | true=>exact ⟨_,_,rfl,.inr C,i⟩
 ·rw [iN u]
  exact ⟨_,_,rfl,.inl rfl,j⟩
theorem zbR:∃L,zLE fu f=some L/\L.length=f.Nodes.length/\∀r∈L,zPd f.Nodes r:=by
 have hs:=zAE hr
 have I:=hs.few
 have G:∀(j i K:Nat) (e:List Int) (ids:List (Int×List (Bs×Int))),i+j=f.Nodes.length->j<K->e.length=i->(∀r∈e,zPd f.Nodes r)->zZf f.Nodes ids->∃L,zGr fu f ⟨f,[]⟩ K ((i:Int),e,ids)=some L/\L.length=f.Nodes.length/\∀r∈L,zPd f.Nodes r:=by
  intro j
  induction j with
  | zero =>
   intro i K e ids hi Q F u _
   obtain ⟨K,rfl⟩:∃E,K=E+1:=⟨K - 1,by omega⟩
   obtain rfl:i=f.Nodes.length:=by omega
   simp only [zGr]
   rw [zAO (by simp)]
   exact ⟨e,rfl,F,u⟩
  | succ j T =>
   intro i K e ids hi Q F u P
   obtain ⟨K,rfl⟩:∃E,K=E+1:=⟨K - 1,by omega⟩
   have h:i<f.Nodes.length:=by omega
   obtain ⟨r,D,J,M,N⟩:=of_ok hr hfu (n:=(i:Int)) (ids:=ids) ⟨by omega,by omega⟩ P
   simp only [zGr]
   rw [zAP (by simpa using h),J,bnd_some,zAc (by simp only [cP,eK];omega),bnd_some,zAf (by omega),bnd_some]
   refine T (i+1) K (e++[r]) D (by omega) (by omega) (by simp [F]) (fun q C=>?_) N
   rcases cA.1 C with C | C
   ·exact u q C
   ·rw [e8.1 C];exact M
 unfold zLE zIM
 rw [zEo hfu (hs.fit hfu),bnd_some,hr,iA,cnd_false,bnd_some]
 exact G f.Nodes.length 0 fu [] [] (by omega) (by omega) rfl (by simp) (by intro p S;cases S)
omit hr in
theorem zRF:∃b,zFe fu x=some b:=by
 unfold zFe
 rw [zO6 (by omega),bnd_some,zAd];split<;>exact ⟨_,rfl⟩
theorem za0 (D:InN f.Nodes n):∃r,zIt fu f n=some r:=by
 have hs:=zAE hr
 obtain ⟨x,hx⟩:=zAI D
 have C:=hs.kids x (zEp hx)
 unfold zIt
 rw [hx,bnd_some]
 have E:∀k∈x.Kids,zCv fu k f=some (match idx f.Nodes k with | some y=>y.Kind==1&&y.Name==([108,101,103,101,110,100]:Bs) | none=>false):=fun k u=>by
  obtain ⟨y,hy⟩:=zAI (zay hr hx u)
  unfold zCv
  rw [hy,bnd_some,bnd_some]
  simp only
  cases y.Kind==1<;>rfl
 have hi:zAS fu (fun j=>zCv fu j f) x.Kids=some (zKB x.Kids fun k=>match idx f.Nodes k with | some y=>y.Kind==1&&y.Name==([108,101,103,101,110,100]:Bs) | none=>false):=by
  unfold zAS
  refine zUV (L:=zAJ (fun j=>zCv fu j f) x.Kids) x.Kids _ (fun i h k=>?_) (fun k=>?_) (by omega)
  ·simp only [zAJ]
   rw [zAP (by simpa using h),zAQ h,bnd_some,E _ (gC h),bnd_some,zAf (by omega),bnd_some]
   generalize (match idx f.Nodes x.Kids[i] with | some y=>y.Kind==1&&y.Name==([108,101,103,101,110,100]:Bs) | none=>false)=b
   cases b<;>rfl
  ·simp only [zAJ]
   rw [zAO (by simp)]
 rw [hi,bnd_some,zAM]
 cases e:x.Kids.any (fun k=>match idx f.Nodes k with | some y=>y.Kind==1&&y.Name==([108,101,103,101,110,100]:Bs) | none=>false) with
 | false=>rw [iP (zSx.2 e)];exact ⟨_,rfl⟩
 | true =>
  obtain ⟨i,h,q,_⟩:=zRm e
  rw [iN (by rw [q];omega),q,zAQ h,bnd_some]
  exact ⟨_,rfl⟩
theorem zcu:∀n,InN f.Nodes n->∀(K:Nat) (b:Int),(way f.Nodes n).length<K->∃r,zCQ fu f K (b,n)=some r:=by
 have T:=zBD hr
 refine T.up_ind fun n h C K b e=>?_
 obtain ⟨K,rfl⟩:∃j,K=j+1:=⟨K - 1,by omega⟩
 obtain ⟨x,hx⟩:=zAI h
 have q:n ≠ -1:=by unfold InN at h;omega
 obtain ⟨d,u⟩:=zRF (fu:=fu) hfu (x:=x)
 obtain ⟨l,hl⟩:=za0 hr hfu h
 rw [T.way_eq h] at e
 simp only [cP] at e
 have next:∃r,zCQ fu f K (n,x.Parent)=some r:=by
  rw [<- zIq hx]
  by_cases i:zI5 f.Nodes n = -1
  ·rw [i]
   rw [iP i] at e
   obtain ⟨K,rfl⟩:∃j,K=j+1:=⟨K - 1,by simp at e;omega⟩
   simp only [zCQ]
   rw [zAe,iP rfl]
   exact ⟨_,rfl⟩
  ·rw [iN i] at e
   exact C i K n (by omega)
 simp only [zCQ]
 rw [zAe,iN q,hx,bnd_some,u,bnd_some,hl,bnd_some,bnd_some]
 cases x.Name==([102,105,101,108,100,115,101,116]:Bs) with
 | false=>exact next
 | true =>
  rw [cnd_true]
  cases d with
  | false=>exact next
  | true =>
   rw [cnd_true,zAe]
   split
   ·exact next
   ·exact ⟨_,rfl⟩
theorem zZh (h:InN f.Nodes n):∃r,zG3 fu f n=some r:=by
 have T:=zBD hr
 have hs:=zAE hr
 have j:=hs.few
 obtain ⟨x,hx⟩:=zAI h
 obtain ⟨d,C⟩:=zRF (fu:=fu) hfu (x:=x)
 have i:∃r,zIs fu f n=some r:=by
  unfold zIs
  rw [hx,bnd_some,C,bnd_some,bnd_some,bnd_some,bnd_some]
  cases d with
  | true=>exact ⟨_,rfl⟩
  | false =>
   rw [cnd_false,zAe]
   split
   ·rw [<- zIq hx]
    by_cases q:zI5 f.Nodes n = -1
    ·rw [q]
     obtain ⟨K,rfl⟩:∃u,fu=u+1:=⟨fu - 1,by omega⟩
     simp only [zCQ]
     rw [zAe,iP rfl]
     exact ⟨_,rfl⟩
    ·have e:=(T.par n h q).1
     have:=(T.way_len e).2
     exact zcu hr hfu _ e fu n (by omega)
   ·exact ⟨_,rfl⟩
 obtain ⟨r,i⟩:=i
 unfold InN at h
 unfold zG3
 rw [zAP (decide_eq_true (show n>=0 from h.1)),zAP (decide_eq_true h.2),zEo hfu (hs.fit hfu),bnd_some,hr,cnd_true,i,bnd_some]
 exact ⟨_,rfl⟩
theorem zZG (x:Int):∃L,zHD fu f x=some L/\L.length<=400/\∀r∈L,InN f.Nodes r:=by
 have T:=zBD hr
 have hs:=zAE hr
 have hfew:=hs.few
 have no:∃L,some ([]:List Int)=some L/\L.length<=400/\∀r∈L,InN f.Nodes r:=⟨[],rfl,by simp,by simp⟩
 unfold zHD
 rw [zAM,zAM,zEo hfu (hs.fit hfu),bnd_some,hr,iA,cnd_false]
 by_cases h0:x<0
 ·rw [iP h0];exact no
 ·rw [iN h0]
  by_cases h1:x>=(f.Nodes.length:Int)
  ·rw [iP h1];exact no
  ·have hx:InN f.Nodes x:=by unfold InN;omega
   obtain ⟨y,hy⟩:=zAI hx
   obtain ⟨b,hb⟩:=zWn (fu:=fu) (x:=y)
   have G:=T.root_in hx
   have hal:=T.all_len G
   rw [iN h1,hy,bnd_some,hb,bnd_some]
   cases b with
   | false=>exact no
   | true =>
    unfold zIM
    rw [iA,cnd_false,bnd_some,zZo hs hfu hr hx,bnd_some,zTT hs hfu hr G,bnd_some]
    simp only
    have M:∀k ids,InN f.Nodes k->zZf f.Nodes ids->∃b e,zA5 fu k f.Nodes f.Most x ids=some (b,e)/\zZf f.Nodes e:=fun k ids hk E=>by
     obtain ⟨r,e,C,_,g3⟩:=of_ok hr hfu hk E
     unfold zA5
     rw [C,bnd_some]
     exact ⟨_,_,rfl,g3⟩
    have Q:∀k∈zKT f.Nodes (zSM f.Nodes x),InN f.Nodes k:=fun k hk=>(T.all_in _ G k hk).1
    generalize zKT f.Nodes (zSM f.Nodes x)=L at hal Q
    have ix:∀(j i K:Nat) (ids:List (Int×List (Bs×Int))),i+j=L.length->j<K->zZf f.Nodes ids->∃r e,zBO (fun N P=>zA5 fu N f.Nodes f.Most x P) L K ((i:Int),ids)=some (r,e)/\zZf f.Nodes e/\(r = -1\/∃m:Nat,r=(m:Int)/\m<L.length):=by
     intro j
     induction j with
     | zero =>
      intro i K ids hi hK E
      obtain ⟨K,rfl⟩:∃u,K=u+1:=⟨K - 1,by omega⟩
      obtain rfl:i=L.length:=by omega
      simp only [zBO]
      rw [zAO (by simp)]
      exact ⟨_,_,rfl,E,.inl rfl⟩
     | succ j V =>
      intro i K ids hi hK E
      obtain ⟨K,rfl⟩:∃u,K=u+1:=⟨K - 1,by omega⟩
      have h:i<L.length:=by omega
      obtain ⟨b,e,C,D⟩:=M _ ids (Q _ (gC h)) E
      simp only [zBO]
      rw [zAP (by simpa using h),zAQ h,bnd_some,C,bnd_some,zAf (by omega),bnd_some]
      cases b with
      | true=>exact ⟨_,_,rfl,D,.inr ⟨i,rfl,h⟩⟩
      | false=>exact V (i+1) K e (by omega) (by omega) D
    have del:∀(d i j K:Nat) (m:List Int) (ids:List (Int×List (Bs×Int))),j+d=m.length->m.length<=400->d<K->i<j->(∀r∈m,InN f.Nodes r)->zZf f.Nodes ids->∃W e,zAq (fun N P=>zA5 fu N f.Nodes f.Most x P) K ((i:Int),(j:Int),m,ids)=some (W,e)/\W.length<=400/\∀r∈W,InN f.Nodes r:=by
     intro d
     induction d with
     | zero =>
      intro i j K m ids hj S hK hij q _
      obtain ⟨K,rfl⟩:∃u,K=u+1:=⟨K - 1,by omega⟩
      obtain rfl:j=m.length:=by omega
      simp only [zAq]
      rw [zAO (by simp)]
      obtain ⟨I,e2,e3,e4⟩:∃I,zVw m (i:Int) (0:Int)=some I/\I.length=m.length/\I.take i=m.take i:=by
       unfold zVw
       rw [iP ⟨by omega,by omega⟩]
       refine ⟨_,rfl,?_,?_⟩
       ·simp;omega
       ·rw [eO,iV (by simp;omega),jI,Nat.min_self]
      rw [e2,bnd_some]
      rw [show piece I 0 (i:Int)=some (I.take i) from by
       unfold piece
       rw [iP ⟨by omega,by omega,by omega⟩]
       simp,bnd_some,e4]
      exact ⟨_,_,rfl,by simp;omega,fun r F=>q r (List.mem_of_mem_take F)⟩
     | succ d V =>
      intro i j K m ids hj S hK hij q E
      obtain ⟨K,rfl⟩:∃u,K=u+1:=⟨K - 1,by omega⟩
      have h:j<m.length:=by omega
      have hi:i<m.length:=by omega
      obtain ⟨b,e,C,D⟩:=M _ ids (q _ (gC h)) E
      simp only [zAq]
      rw [zAP (by simpa using h),zAQ h,bnd_some,C,bnd_some,zAQ hi,bnd_some,zAf (by omega),zAf (by omega),eO]
      simp only [bnd_some]
      cases b with
      | true=>exact V i (j+1) K m e (by omega) S (by omega) (by omega) q D
      | false =>
       refine V (i+1) (j+1) K (m.set i m[j]) e (by simp;omega) (by simpa using S) (by omega) (by omega) (fun r F=>?_) D
       rcases dT F with h' | rfl
       ·exact q r h'
       ·exact q _ (gC h)
    obtain ⟨r,e,C,D,g3⟩:=ix L.length 0 fu [] (by omega) (by omega) (by intro p hp;cases hp)
    have J:∃X,zCu fu (fun N P=>zA5 fu N f.Nodes f.Most x P) L []=some X/\X.1.length<=400/\∀k∈X.1,InN f.Nodes k:=by
     unfold zCu zEm
     rw [show ((0:Int),([]:List (Int×List (Bs×Int))))=(((0:Nat):Int),[]) from rfl,C,bnd_some]
     simp only
     rw [zAd]
     rcases g3 with rfl | ⟨m,rfl,S⟩
     ·rw [iP rfl];exact ⟨_,rfl,by simp only;omega,Q⟩
     ·rw [iN (by omega),zAf (by omega),bnd_some]
      obtain ⟨W,ids2,k1,k2,k3⟩:=del (L.length - (m+1)) m (m+1) fu L e (by omega) (by omega) (by omega) (by omega) Q D
      exact ⟨_,k1,k2,k3⟩
    obtain ⟨X,k1,k2,k3⟩:=J
    rw [k1,bnd_some]
    exact ⟨_,rfl,k2,k3⟩
end
end
section
def Upd (ns:List Node) (i:Int) (s e:State):Prop:=e=s\/(isB ns i 1=true/\e.Phase=s.Phase/\e.Def=s.Def/\(e.Owner=s.Owner\/zPd ns e.Owner))
theorem Upd.trans {i:Int} {a b c:State} (C:Upd ns i a b) (D:Upd ns i b c):Upd ns i a c:=by
 rcases D with rfl | ⟨e,j,q,u⟩
 ·exact C
 ·rcases C with rfl | ⟨G,E,F,k4⟩
  ·exact .inr ⟨e,j,q,u⟩
  ·refine .inr ⟨e,j.trans E,q.trans F,?_⟩
   rcases u with h | h
   ·rcases k4 with k | k
    ·exact .inl (h.trans k)
    ·exact .inr (by rw [h];exact k)
   ·exact .inr h
def zZr (ns:List Node) (st e:List State):Prop:=e.length=st.length/\∀(i:Nat) (h:State),e[i]? = some h->∃s,st[i]? = some s/\Upd ns (i:Int) s h
theorem zZr.refl (ns:List Node) (st:List State):zZr ns st st:=⟨rfl,fun _ s h=>⟨s,h,.inl rfl⟩⟩
theorem zZr.set {st j:List State} (h:zZr ns st j) {n:Nat} {s v:State} (hs:j[n]? = some s) (C:Upd ns (n:Int) s v):zZr ns st (j.set n v):=by
 refine ⟨by simpa using h.1,fun i D hi=>?_⟩
 rw [kS] at hi
 split at hi
 ·rename_i e
  subst e
  split at hi
  ·cases hi
   obtain ⟨E,q,u⟩:=h.2 n s hs
   exact ⟨E,q,u.trans C⟩
  ·cases hi
 ·exact h.2 i D hi
theorem zRJ {fu:Nat} {ws:List Wait} {nx:Int} {bz:Bool} {cs:List Class} {st:List State} {s:State} {y:Node} (hs:idx st n=some s) (hy:idx ns n=some y) :
  ∃c b,zC0 fu n ns defs ws nx bz cs st=some (c,b)/\(b=true->s.Phase=3/\zKK s defs cs=some c/\y.Kind=1):=by
 unfold zC0
 rw [hs,bnd_some,zXd,bnd_some,hy]
 simp only
 cases i:zKK s defs cs with
 | none=>exact ⟨_,_,rfl,fun h=>by cases h⟩
 | some c =>
  simp only [cnd_true,bnd_some]
  rw [zAd]
  cases c.Form with
  | false=>exact ⟨_,_,rfl,fun h=>by cases h⟩
  | true =>
   rw [cnd_true]
   by_cases e:s.Phase=3
   ·rw [iP e]
    exact ⟨_,_,rfl,fun h=>⟨e,rfl,by simpa using h⟩⟩
   ·rw [iN e]
    exact ⟨_,_,rfl,fun h=>by cases h⟩
theorem zOX {fu:Nat} {c:Class} {l:List Due} (hl:l.length<=1000000):∃e,zCf fu c n t l=some (l++e)/\(e=[]\/e=[⟨n,t⟩]):=by
 unfold zCf
 rw [zTn,bnd_some,zAc (by simp only [cP,eK];omega),bnd_some]
 cases zMT c t.Kind with
 | true=>exact ⟨[⟨n,t⟩],rfl,.inr rfl⟩
 | false=>exact ⟨[],by rw [gI];rfl,.inl rfl⟩
section
variable {fu:Nat} {f:Forest} {st:List State} {d:Desk} {cs:List Class} (hfu:1000<fu) (hr:zAG f=true) (hl:d.Defs.length<=900) (hw:d.Waits.length<=900) (hst:st.length=f.Nodes.length)
include hfu hr hl hw hst
theorem zTh:zHe fu f st d cs=some ((),zKn d,f.Nodes,f.Most,d.Defs,d.Waits,d.Next,d.Busy,cs,st,[]):=by
 have e:=(zAE hr).few
 unfold zHe
 rw [zaH (by omega),bnd_some,show ((st.length:Int)==(f.Nodes.length:Int))=true by rw [hst];simp,cnd_true,zEo hfu ((zAE hr).fit hfu),bnd_some,hr,cnd_true,zRH hfu hl hw,bnd_some]
def zYk (ns:List Node) (u:Due):Prop:=isB ns u.Node 1=true/\(u.Todo.Kind=5\/u.Todo.Kind=6)
omit hl hw in
theorem told_l (hL:L.length=f.Nodes.length) (hin:∀r∈L,zPd f.Nodes r):∀(j i K:Nat) (q:List State) (due:List Due),i+j=L.length->j<K->zZr f.Nodes st q->(∀u∈due,zYk f.Nodes u)->due.length<=2*i->(d.Defs=[]->q=st/\due=[]) ->
  ∃Q C,zDO fu f ((),true,f.Nodes,f.Most,d.Defs,d.Waits,d.Next,d.Busy,cs,st,[]) L K ((i:Int),q,due)=some (Q,C)/\zZr f.Nodes st Q/\(∀u∈C,zYk f.Nodes u)/\C.length<=2*L.length/\(d.Defs=[]->Q=st/\C=[]):=by
 have hfew:=(zAE hr).few
 intro j
 induction j with
 | zero =>
  intro i K q due hi hK M S I hn
  obtain ⟨K,rfl⟩:∃K',K=K'+1:=⟨K - 1,by omega⟩
  obtain rfl:i=L.length:=by omega
  simp only [zDO]
  rw [zAO (by simp)]
  exact ⟨_,_,rfl,M,S,I,hn⟩
 | succ j ih =>
  intro i K q due hi hK M S I hn
  obtain ⟨K,rfl⟩:∃K',K=K'+1:=⟨K - 1,by omega⟩
  have h:i<L.length:=by omega
  have N:i<f.Nodes.length:=by omega
  have F:i<q.length:=by rw [M.1,hst];exact N
  have hni:InN f.Nodes (i:Int):=by unfold InN;omega
  have hown:=hin _ (gC h)
  obtain ⟨c,b,h1,h2⟩:=zRJ (fu:=fu) (defs:=d.Defs) (ws:=d.Waits) (nx:=d.Next) (bz:=d.Busy) (cs:=cs) (zAQ F) (zAQ N)
  obtain ⟨D,X⟩:=zZh hr hfu hni
  simp only [zDO]
  rw [zAP (by simpa using h),zAQ h,bnd_some,h1,bnd_some,zAf (by omega)]
  simp only [bnd_some]
  cases b with
  | false=>exact ih (i+1) K q due (by omega) (by omega) M S (by omega) hn
  | true =>
   obtain ⟨g1,g2,g3⟩:=h2 rfl
   have hB:isB f.Nodes (i:Int) 1=true:=by unfold isB;rw [zAQ N];simpa using g3
   have hdn:¬d.Defs=[]:=fun e=>by rw [e,zLU] at g2;cases g2
   have P:∀(a:List State) (b:List Due),d.Defs=[]->a=st/\b=[]:=fun _ _ e=>absurd e hdn
   have hgs:q[i]? = some q[i]:=lC F
   rw [iA,cnd_false,zAQ F,bnd_some,zAe,X]
   have J:∀{t:Todo} {G E:List Due},(t.Kind=5\/t.Kind=6)->(∀u∈G,zYk f.Nodes u)->(E=[]\/E=[⟨(i:Int),t⟩])->∀u∈G++E,zYk f.Nodes u:=fun ht hd hl' u T=>by
    rcases cA.1 T with T | T
    ·exact hd u T
    ·rcases hl' with rfl | rfl
     ·cases T
     ·rw [e8.1 T];exact ⟨hB,ht⟩
   by_cases ho:q[i].Owner=L[i]
   ·rw [iP ho,bnd_some]
    cases hb2:D==q[i].Barred with
    | true=>exact ih (i+1) K q due (by omega) (by omega) M S (by omega) hn
    | false =>
     obtain ⟨E,k1,k2⟩:=zOX (fu:=fu) (c:=c) (n:=(i:Int)) (t:=⟨6,0,[],false,false,[],[],0,0,D⟩) (l:=due) (by omega)
     rw [jL,cnd_true,k1,bnd_some,eO]
     have hll:E.length<=1:=by rcases k2 with rfl | rfl<;>simp
     exact ih (i+1) K _ (due++E) (by omega) (by omega) (M.set hgs (.inr ⟨hB,rfl,rfl,.inl rfl⟩)) (J (.inr rfl) S k2) (by rw [eR];omega) (P _ _)
   ·rw [iN ho]
    obtain ⟨E,k1,k2⟩:=zOX (fu:=fu) (c:=c) (n:=(i:Int)) (t:=⟨5,0,[],false,false,[],[],q[i].Owner,L[i],false⟩) (l:=due) (by omega)
    have hll:E.length<=1:=by rcases k2 with rfl | rfl<;>simp
    have W:=M.set (v:=⟨q[i].Phase,q[i].Def,L[i],q[i].Barred⟩) hgs (.inr ⟨hB,rfl,rfl,.inr hown⟩)
    have V:=J (.inl rfl) S k2
    rw [k1,bnd_some,bnd_some,eO]
    cases hb2:D==q[i].Barred with
    | true=>exact ih (i+1) K _ (due++E) (by omega) (by omega) W V (by rw [eR];omega) (P _ _)
    | false =>
     obtain ⟨l2,k3,k4⟩:=zOX (fu:=fu) (c:=c) (n:=(i:Int)) (t:=⟨6,0,[],false,false,[],[],0,0,D⟩) (l:=due++E) (by rw [eR];omega)
     have hll2:l2.length<=1:=by rcases k4 with rfl | rfl<;>simp
     rw [jL,cnd_true,k3,bnd_some]
     have hg2:(q.set i (⟨q[i].Phase,q[i].Def,L[i],q[i].Barred⟩:State))[i]? = some ⟨q[i].Phase,q[i].Def,L[i],q[i].Barred⟩:=by
      rw [kS,iP rfl,iP F]
     exact ih (i+1) K _ (due++E++l2) (by omega) (by omega) (W.set (v:=⟨q[i].Phase,q[i].Def,L[i],D⟩) hg2 (.inr ⟨hB,rfl,rfl,.inl rfl⟩)) (J (.inr rfl) V k4) (by simp only [eR];omega) (P _ _)
theorem zgr (I:zKn d=true):∃h e,zJD fu f st d cs=some (h,e)/\zZr f.Nodes st h/\(∀u∈e,zYk f.Nodes u)/\e.length<=800/\(d.Defs=[]->h=st/\e=[]):=by
 have i:=(zAE hr).few
 obtain ⟨L,E,F,G⟩:=zbR hr hfu
 unfold zJD
 rw [zTh hfu hr hl hw hst,bnd_some,I]
 simp only [iA,cnd_false]
 rw [E,bnd_some]
 obtain ⟨h,e,j,q,C,J,D⟩:=told_l (d:=d) (cs:=cs) hfu hr hst F G L.length 0 fu st [] (by omega) (by omega) (zZr.refl _ _) (by simp) (by simp) (fun _=>⟨rfl,rfl⟩)
 exact ⟨h,e,j,q,C,by omega,D⟩
theorem zd6 (x:Int):∃due,zJx fu f st d cs x=some due/\due.length<=400/\(∀u∈due,InN f.Nodes u.Node/\u.Todo.Kind=7)/\(d.Defs=[]->due=[]):=by
 have S:=(zAE hr).few
 obtain ⟨L,h1,h2,h3⟩:=zZG hr hfu x
 unfold zJx
 rw [zTh hfu hr hl hw hst,bnd_some]
 cases hd:zKn d with
 | false=>exact ⟨[],rfl,by simp,by simp,fun _=>rfl⟩
 | true =>
  simp only [iA,cnd_false]
  rw [h1,bnd_some]
  have P:∀(j i K:Nat) (due:List Due),i+j=L.length->j<K->due.length<=i->(∀u∈due,InN f.Nodes u.Node/\u.Todo.Kind=7)->(d.Defs=[]->due=[])->∃q,zEw fu ((),true,f.Nodes,f.Most,d.Defs,d.Waits,d.Next,d.Busy,cs,st,[]) L K ((i:Int),due)=some q/\q.length<=L.length/\(∀u∈q,InN f.Nodes u.Node/\u.Todo.Kind=7)/\(d.Defs=[]->q=[]):=by
   intro j
   induction j with
   | zero =>
    intro i K due hi hK C F N
    obtain ⟨K,rfl⟩:∃G,K=G+1:=⟨K - 1,by omega⟩
    obtain rfl:i=L.length:=by omega
    simp only [zEw]
    rw [zAO (by simp)]
    exact ⟨_,rfl,C,F,N⟩
   | succ j T =>
    intro i K due hi hK C F N
    obtain ⟨K,rfl⟩:∃G,K=G+1:=⟨K - 1,by omega⟩
    have h:i<L.length:=by omega
    have M:=h3 _ (gC h)
    obtain ⟨y,hy⟩:=zAI M
    obtain ⟨s,hs⟩:=zAI (l:=st) (n:=L[i]) (by rw [hst];exact M)
    obtain ⟨c,b,I,Q⟩:=zRJ (fu:=fu) (defs:=d.Defs) (ws:=d.Waits) (nx:=d.Next) (bz:=d.Busy) (cs:=cs) hs hy
    simp only [zEw]
    rw [zAP (by simpa using h),zAQ h,bnd_some,I,bnd_some,zAf (by omega)]
    simp only [bnd_some]
    cases b with
    | false=>exact T (i+1) K due (by omega) (by omega) (by omega) F N
    | true =>
     obtain ⟨_,E,_⟩:=Q rfl
     have J:¬d.Defs=[]:=fun e=>by rw [e,zLU] at E;cases E
     obtain ⟨W,k1,V⟩:=zOX (fu:=fu) (c:=c) (n:=L[i]) (t:=⟨7,0,[],false,false,[],[],0,0,false⟩) (l:=due) (by omega)
     have hll:W.length<=1:=by rcases V with rfl | rfl<;>simp
     rw [cnd_true,k1,bnd_some]
     refine T (i+1) K (due++W) (by omega) (by omega) (by rw [eR];omega) (fun u D=>?_) fun e=>absurd e J
     rcases cA.1 D with D | D
     ·exact F u D
     ·rcases V with rfl | rfl
      ·cases D
      ·rw [e8.1 D];exact ⟨M,rfl⟩
  obtain ⟨q,I,Q,X,E⟩:=P L.length 0 fu [] (by omega) (by omega) (by simp) (by simp) (fun _=>rfl)
  exact ⟨q,I,by omega,X,E⟩
theorem zZP (i:InN f.Nodes n) (s:Bs):∃due,zH0 fu f st d cs n s=some due/\due.length<=1/\(∀u∈due,u.Node=n/\u.Todo.Kind=8)/\(d.Defs=[]->due=[]):=by
 obtain ⟨y,hy⟩:=zAI i
 obtain ⟨K,hs⟩:=zAI (l:=st) (n:=n) (by rw [hst];exact i)
 have j:=i
 unfold InN at j
 unfold zH0
 rw [zTh hfu hr hl hw hst,bnd_some]
 cases J:zKn d with
 | false=>exact ⟨[],rfl,by simp,by simp,fun _=>rfl⟩
 | true =>
  obtain ⟨c,b,E,F⟩:=zRJ (fu:=fu) (defs:=d.Defs) (ws:=d.Waits) (nx:=d.Next) (bz:=d.Busy) (cs:=cs) hs hy
  simp only [iA,cnd_false]
  rw [zAO (by simp;omega),zAO (by simp;omega),E,bnd_some]
  cases b with
  | false=>exact ⟨[],rfl,by simp,by simp,fun _=>rfl⟩
  | true =>
   obtain ⟨_,q,_⟩:=F rfl
   have h:¬d.Defs=[]:=fun e=>by rw [e,zLU] at q;cases q
   obtain ⟨I,G,D⟩:=zOX (fu:=fu) (c:=c) (n:=n) (t:=⟨8,0,[],false,false,[],s,0,0,false⟩) (l:=[]) (by simp)
   simp only [cnd_true]
   rw [G,bnd_some]
   refine ⟨I,by rw [iU],by rcases D with rfl | rfl<;>simp,fun u C=>?_,fun e=>absurd e h⟩
   rcases D with rfl | rfl
   ·cases C
   ·rw [e8.1 C];exact ⟨rfl,rfl⟩
end
end
section
def zSc:Line->List Task->List Due->Line×List Task
 | l,ts,[]=>(l,ts)
 | l,ts,u::r=>zSc (zQP l u.Node u.Todo).1 (if (zQP l u.Node u.Todo).2=true then ts++[⟨1,0,0⟩] else ts) r
def zU9 (w:World) (due:List Due):World:=⟨w.Forest,w.States,w.Desk,(zSc w.Line w.Tasks due).1,(zSc w.Line w.Tasks due).2,w.Builds,w.Classes⟩
theorem zXk:∀{due:List Due} {l:Line} {ts:List Task},(zSc l ts due).1.Todos.length=l.Todos.length
 | [],_,_=>rfl
 | u::r,l,ts=>by simp only [zSc];rw [zXk,zOK]
theorem zSd:∀{due:List Due} {l:Line} {ts:List Task},zHO l=true->(∀u∈due,inL l u.Node=true)->zHO (zSc l ts due).1=true
 | [],_,_,h,_=>h
 | u::r,l,ts,h,hi=>by
  simp only [zSc]
  refine zSd (zSO h (hi u (lH ..))) fun v e=>?_
  rw [zQa zOK]
  exact hi v (lG _ e)
theorem zSe {B:Nat}:∀{due:List Due} {l:Line} {ts:List Task} {n:Nat},LS (B+n) l->LS (B+n+due.length) (zSc l ts due).1
 | [],_,_,_,h=>h
 | u::r,l,ts,n,h=>by
  simp only [zSc,cP]
  have:=zSe (B:=B) (due:=r) (l:=(zQP l u.Node u.Todo).1) (ts:=if (zQP l u.Node u.Todo).2=true then ts++[⟨1,0,0⟩] else ts) (n:=n+1) (zSP h)
  exact this.mono (by omega)
theorem zPH:∀{due:List Due} {l:Line} {ts:List Task},(zSc l ts due).2.length<=ts.length+due.length/\(∀t∈(zSc l ts due).2,t∈ts\/t=⟨1,0,0⟩)
 | [],_,_=>⟨by simp [zSc],fun _ h=>.inl h⟩
 | u::r,l,ts=>by
  simp only [zSc,cP]
  obtain ⟨q,i⟩:=zPH (due:=r) (l:=(zQP l u.Node u.Todo).1) (ts:=if (zQP l u.Node u.Todo).2=true then ts++[⟨1,0,0⟩] else ts)
  refine ⟨?_,fun t j=>?_⟩
  ·have e:(if (zQP l u.Node u.Todo).2=true then ts++[(⟨1,0,0⟩:Task)] else ts).length<=ts.length+1:=by split<;>simp
   omega
  ·rcases i t j with h | h
   ·split at h
    ·rcases cA.1 h with h | h
     ·exact .inl h
     ·exact .inr (e8.1 h)
    ·exact .inl h
   ·exact .inr h
def zdA (due:List Due) (i:Nat):List Todo:=(due.filter fun u=>u.Node==(i:Int)).map (·.Todo)
theorem zfD (q:inL l n=true) (i:Nat):(zQP l n t).1.Todos[i]? = (l.Todos[i]?).map fun a=>a++(if n=(i:Int) then [t] else []):=by
 unfold inL at q
 simp only [lM,decide_eq_true_eq] at q
 obtain ⟨m,rfl⟩:∃m:Nat,n=(m:Int):=⟨n.toNat,by omega⟩
 have j:m<l.Todos.length:=by omega
 have e:(zQP l (m:Int) t).1.Todos=l.Todos.set m ((l.Todos[m]?).getD []++[t]):=by
  unfold zQP;split<;>simp
 rw [e,kS]
 by_cases h:m=i
 ·subst h
  rw [iP rfl,iP j,iP rfl,lC j]
  rfl
 ·rw [iN h,iN (by omega)]
  cases l.Todos[i]? <;> simp
theorem zaY:∀{due:List Due} {l:Line} {ts:List Task} (i:Nat),(∀u∈due,inL l u.Node=true)->(zSc l ts due).1.Todos[i]? = (l.Todos[i]?).map fun a=>a++zdA due i
 | [],l,ts,i,_=>by
  simp only [zSc,zdA]
  cases l.Todos[i]? <;> simp
 | u::r,l,ts,i,hi=>by
  simp only [zSc]
  rw [zaY i (fun v e=>by rw [zQa zOK];exact hi v (lG _ e)),zfD (hi u (lH ..)),Option.map_map]
  congr 1
  funext a
  simp only [Function.comp_apply,eS]
  congr 1
  unfold zdA
  rw [k9]
  by_cases h:u.Node=(i:Int)
  ·rw [iP h,iP (by simpa using h)];rfl
  ·rw [iN h,iN (by simpa using h)];rfl
theorem zdC {fu B:Nat} {w0:World} (hfu:B+due.length+10000<fu) (hB:B+due.length<=1000000000):∀(j i K:Nat) (l:Line) (ts:List Task),i+j=due.length->j<K->LS (B+i) l->ts.length<=B+i->zHO l=true->(∀u∈due,inL l u.Node=true) ->
  zBg fu due ⟨w0⟩ K ((i:Int),ts,l.Todos,l.Stack,l.Back,l.Busy)=some ⟨⟨w0.Forest,w0.States,w0.Desk,(zSc l ts (due.drop i)).1,(zSc l ts (due.drop i)).2,w0.Builds,w0.Classes⟩⟩:=by
 intro j
 induction j with
 | zero =>
  intro i K l ts hi I hS J hR F
  obtain ⟨K,rfl⟩:∃E,K=E+1:=⟨K - 1,by omega⟩
  obtain rfl:i=due.length:=by omega
  simp only [zBg]
  rw [zAO (by simp),kK]
  rfl
 | succ j G =>
  intro i K l ts hi I hS J hR F
  obtain ⟨K,rfl⟩:∃E,K=E+1:=⟨K - 1,by omega⟩
  have h:i<due.length:=by omega
  have D:=F _ (gC h)
  have C:LS (B+(i+1)) (zQP l due[i].Node due[i].Todo).1:=zSP hS
  have e:∀u∈due,inL (zQP l due[i].Node due[i].Todo).1 u.Node=true:=fun u M=>by rw [zQa zOK];exact F u M
  have q:=zSO (t:=due[i].Todo) hR D
  simp only [zBg]
  rw [zAP (by simpa using h),zAQ h,bnd_some,add_ok (B:=B+i) (by omega) (by omega) hS hR D,bnd_some,zAf (by omega)]
  simp only [bnd_some]
  rw [eT h]
  simp only [zSc]
  cases N:(zQP l due[i].Node due[i].Todo).2 with
  | true =>
   rw [cnd_true,zAc (by simp only [cP,eK];omega),bnd_some,iP rfl]
   exact G (i+1) K (zQP l due[i].Node due[i].Todo).1 _ (by omega) (by omega) C (by simp only [eR,cP,eK];omega) q e
  | false =>
   rw [cnd_false,iN (by simp)]
   exact G (i+1) K (zQP l due[i].Node due[i].Todo).1 _ (by omega) (by omega) C (by omega) q e
theorem zRK {fu B:Nat} {w:World} (hfu:B+due.length+10000<fu) (hB:B+due.length<=1000000000) (hS:LS B w.Line) (h:w.Tasks.length<=B) (hR:zHO w.Line=true) (e:∀u∈due,inL w.Line u.Node=true):zBT fu due ⟨w⟩=some ⟨zU9 w due⟩:=by
 unfold zBT
 rw [zaG (by simp only;omega),bnd_some]
 exact zdC hfu hB due.length 0 fu w.Line w.Tasks (by omega) (by omega) hS h hR e
structure WR (w:World):Prop where
 st:w.States.length=w.Forest.Nodes.length
 td:w.Line.Todos.length=w.Forest.Nodes.length
 cl:zMm w=true
 fr:zAG w.Forest=true
 dk:zKn w.Desk=true
 ln:zHO w.Line=true
 per:∀(i:Nat) (s:State) (x:Node),w.States[i]? = some s->w.Forest.Nodes[i]? = some x->zLq w.Forest.Nodes.length w.Desk.Defs.length x s=true
 todo:∀l∈w.Line.Todos,∀t∈l,zJd w.Desk.Defs.length t=true
 task:∀t∈w.Tasks,zVx w.Desk.Defs.length t=true
 build:∀b∈w.Builds,zOO w.Forest.Nodes w.Desk.Defs.length b=true
theorem WR.iff {w:World}:zTF w=true↔WR w:=by
 unfold zTF
 simp only [lM,decide_eq_true_eq,lR,jO]
 constructor
 ·rintro ⟨j,q,u,C,D,E,e,F,G⟩
  refine ⟨j,q,u,C,D,E,fun i s x hs hx=>?_,fun l hl t I=>?_,F,G⟩
  ·have hi:i<w.Line.Todos.length:=by
    have:=(lF.1 hx).1;omega
   have:=e i hi
   unfold zeu at this
   rw [hs,hx] at this
   simp only [lM] at this
   exact this.1
  ·obtain ⟨i,hi,rfl⟩:=iW hl
   have:=e i hi
   unfold zeu at this
   rw [lC hi] at this
   simp only [lM,cM,lR] at this
   exact this.2 t I
 ·intro h
  refine ⟨h.st,h.td,h.cl,h.fr,h.dk,h.ln,fun i hi=>?_,h.task,h.build⟩
  have hs:i<w.States.length:=by rw [h.st,<- h.td];exact hi
  have hx:i<w.Forest.Nodes.length:=by rw [<- h.td];exact hi
  unfold zeu
  rw [lC hs,lC hx,lC hi]
  simp only [lM,cM,lR]
  exact ⟨h.per i _ _ (lC hs) (lC hx),h.todo _ (gC hi)⟩
theorem WR.classes {w:World} (h:WR w):∀c∈w.Classes,c.Watch.length<=12:=fun c i=>by
 have:=h.cl
 unfold zMm at this
 simp only [lM,lR] at this
 have e:=this.2.1 c i
 unfold zMj at e
 simp only [lM,decide_eq_true_eq] at e
 exact e.1
theorem WR.enl {w:World} (h:WR w) {due:List Due} (D:∀u∈due,InN w.Forest.Nodes u.Node/\zJd w.Desk.Defs.length u.Todo=true):WR (zU9 w due):=by
 have hi:∀u∈due,inL w.Line u.Node=true:=fun u C=>by
  have:=(D u C).1
  unfold InN at this
  unfold inL
  rw [h.td]
  simpa using this
 refine ⟨h.st,zXk.trans h.td,h.cl,h.fr,h.dk,zSd h.ln hi,h.per,fun l hl t j=>?_,fun t j=>?_,h.build⟩
 ·obtain ⟨i,q⟩:=List.getElem?_of_mem hl
  have e:=zaY (l:=w.Line) (ts:=w.Tasks) i hi
  rw [show (zSc w.Line w.Tasks due).1.Todos[i]? = some l from q] at e
  obtain ⟨a,E,F⟩:=lI.1 e.symm
  subst F
  rcases cA.1 j with j | j
  ·exact h.todo a (lU E) t j
  ·unfold zdA at j
   obtain ⟨u,C,rfl⟩:=lE.1 j
   exact (D u (iJ.1 C).1).2
 ·rcases zPH.2 t j with j | rfl
  ·exact h.task t j
  ·rfl
theorem WR.inL {w:World} (h:WR w) {n:Int} (e:InN w.Forest.Nodes n):inL w.Line n=true:=by
 unfold InN at e
 unfold Proofs.YtmfbghpealgaiaaGreatDoor.inL
 rw [h.td]
 simpa using e
theorem WS.enl {B:Nat} {w:World} (h:WS B w) {due:List Due}:WS (B+due.length) (zU9 w due):=by
 refine ⟨zSe (n:=0) h.line,eM zPH.1 (by have:=h.tasks;omega),by have:=h.builds;simp only [zU9];omega,h.defs,h.waits,h.kids,by have:=h.states;simp only [zU9];omega⟩
theorem zUe {fu B:Nat} {w:World} (hfu:B+due.length+10000<fu) (hB:B+due.length<=1000000000) (hS:WS B w) (hR:WR w) (h:∀u∈due,InN w.Forest.Nodes u.Node/\zJd w.Desk.Defs.length u.Todo=true):zH6 fu w due=some (zU9 w due,0):=by
 unfold zH6
 rw [zR0 hS (by omega) (by omega),bnd_some,WR.iff.2 hR,iA,cnd_false]
 rw [zQF (p:=fun u => !(ltI w.Forest.Nodes.length u.Node&&zJd w.Desk.Defs.length u.Todo)) (fun u _=>by
  unfold zD7
  rw [zUX,bnd_some,zYg,bnd_some]
  cases ltI w.Forest.Nodes.length u.Node<;>rfl) (by omega) (by omega),bnd_some,zFJ]
 have:(due.all fun u=>ltI w.Forest.Nodes.length u.Node&&zJd w.Desk.Defs.length u.Todo)=true:=by
  rw [lR]
  intro u e
  rw [lM]
  exact ⟨zLZ.2 (h u e).1,(h u e).2⟩
 rw [this,iA,cnd_false,zRK hfu hB hS.line hS.tasks hR.ln (fun u e=>hR.inL (h u e).1),bnd_some]
end
section
def zUt (x:Node):State:=⟨if x.Kind=1 then (if x.Is=[] then (if zFI x.Name=true then 1 else 0) else 1) else 0,-1,-1,false⟩
theorem zfN {fu:Nat} (hfu:1000<fu):zIW fu x=some (zUt x):=by
 unfold zIW zNh zUt
 rw [zAd,zHu (by omega),bnd_some]
 by_cases e:x.Kind=1
 ·rw [iP e,iP e]
  by_cases h:x.Is=[]
  ·rw [h]
   cases zFI x.Name<;>rfl
  ·have:(x.Is==([]:Bs))=false:=by simpa using h
   rw [this,iN h];rfl
 ·rw [iN e,iN e]
theorem zWX (q j:Nat) (x:Node):zLq q j x (zUt x)=true:=by
 unfold zLq zUt
 by_cases e:x.Kind=1
 ·rw [iP e,iP e]
  by_cases h:x.Is=[]
  ·by_cases i:zFI x.Name=true<;>simp [h,i]
  ·simp [h]
 ·rw [iN e,iN e];rfl
def zNe (w:World) (f:Forest):Prop:=f.Most=w.Forest.Most/\w.Forest.Nodes.length<=f.Nodes.length/\∀(i:Nat) (x:Node),w.Forest.Nodes[i]? = some x->∃y,f.Nodes[i]? = some y/\y.Kind=x.Kind
def zSi (w:World) (f:Forest) (i:Nat):Bool:=match w.Forest.Nodes[i]?,f.Nodes[i]? with | some x,some y=>y.Kind==x.Kind | _,_=>true
theorem zY5 {fu:Nat} {w:World} {f:Forest} (hfu:2000<fu) (hw:w.Forest.Nodes.length<=1000) (hf:f.Nodes.length<=1000):∃b,zEL fu ⟨w⟩ f=some b/\(b=true↔zNe w f):=by
 unfold zEL
 simp only
 rw [zAe,zAM]
 by_cases q:f.Most=w.Forest.Most
 ·rw [iP q]
  by_cases u:f.Nodes.length<w.Forest.Nodes.length
  ·rw [iP (by omega)]
   exact ⟨false,rfl,by simp;intro h;have:=h.2.1;omega⟩
  ·rw [iN (by omega)]
   have:=zUU (L:=zB1 ⟨w⟩ f) w.Forest.Nodes.length (zSi w f) (some true) (fun i hi k=>by
    have e:i<f.Nodes.length:=by omega
    simp only [zB1]
    rw [zAP (by simpa using hi),zAQ hi,bnd_some,zAQ e,bnd_some,zAe,zAf (by omega),bnd_some]
    unfold zSi
    rw [lC hi,lC e]
    simp only
    by_cases j:f.Nodes[i].Kind=w.Forest.Nodes[i].Kind
    ·rw [iP j,j];simp
    ·rw [iN j,show (f.Nodes[i].Kind==w.Forest.Nodes[i].Kind)=false by simpa using j];rfl) (fun k=>by
    simp only [zB1]
    rw [zAO (by simp)]) (k:=fu) (by omega)
   refine ⟨(cW w.Forest.Nodes.length).all (zSi w f),this.trans ?_,?_⟩
   ·cases (cW w.Forest.Nodes.length).all (zSi w f)<;>rfl
   ·rw [lR]
    constructor
    ·intro h
     refine ⟨q,by omega,fun i x hx=>?_⟩
     have hi:=(lF.1 hx).1
     have e:i<f.Nodes.length:=by omega
     have:=h i (jO.2 hi)
     unfold zSi at this
     rw [hx,lC e] at this
     exact ⟨_,lC e,by simpa using this⟩
    ·intro h i hi
     rw [jO] at hi
     obtain ⟨y,hy,j⟩:=h.2.2 i _ (lC hi)
     unfold zSi
     rw [lC hi,hy]
     simpa using j
 ·rw [iN q]
  exact ⟨false,rfl,by simp;intro h;exact q h.1⟩
def zOb (l:Line) (n:Nat):Line:=⟨l.Todos++dH n [],l.Stack,l.Back,l.Busy⟩
def st1 (w:World) (f:Forest):List State:=w.States++(f.Nodes.drop w.Forest.Nodes.length).map zUt
def ln1 (w:World) (f:Forest):Line:=zOb w.Line (f.Nodes.length - w.Forest.Nodes.length)
def mid1 (w:World) (f:Forest):World:=⟨f,st1 w f,w.Desk,ln1 w f,w.Tasks,w.Builds,w.Classes⟩
def zUZ (w:World) (f:Forest) (notes:List Note):World:=zU9 (mid1 w f) (zU8 f (st1 w f) w.Desk w.Classes notes)
def zf3 (w:World) (f:Forest) (notes:List Note) (e:List State):World:=⟨f,e,w.Desk,(zUZ w f notes).Line,(zUZ w f notes).Tasks,w.Builds,w.Classes⟩
def zfB (w:World) (f:Forest) (notes:List Note) (v:World):Prop:=∃h e,v=zU9 (zf3 w f notes h) e/\zZr f.Nodes (st1 w f) h/\(∀u∈e,zYk f.Nodes u)/\e.length<=800/\(w.Desk.Defs=[]->h=st1 w f/\e=[])
theorem zXv {k:Int} (h:isB ns n k=true):InN ns n:=by
 unfold isB at h
 cases e:idx ns n with
 | none=>rw [e] at h;cases h
 | some x=>exact zAH e
section
variable {w:World} {f:Forest} (hR:WR w) (hf:zAG f=true) (hF:zNe w f)
include hR hf hF
omit hf in
theorem zPV:(st1 w f).length=f.Nodes.length:=by
 have:=hF.2.1
 unfold st1
 rw [eR,lL,iK,hR.st]
 omega
theorem zSk:WR (mid1 w f):=by
 have M:=hF.2.1
 have C:∀{i:Nat} {x:Node},f.Nodes[i]? = some x->i<w.Forest.Nodes.length->∃y,w.Forest.Nodes[i]? = some y/\x.Kind=y.Kind:=fun {i x} hx hi=>by
  obtain ⟨z,hz,q⟩:=hF.2.2 i _ (lC hi)
  rw [hx] at hz
  exact ⟨_,lC hi,by rw [lJ.inj hz];exact q⟩
 have G:∀k,ltI w.Forest.Nodes.length k=true->ltI f.Nodes.length k=true:=fun k h=>by
  have:=zLZ.1 h
  exact zLZ.2 (by omega)
 refine ⟨zPV hR hF,?_,hR.cl,hf,hR.dk,?_,fun i s x hs hx=>?_,fun l hl t I=>?_,hR.task,fun b P=>?_⟩
 ·show (w.Line.Todos++dH (f.Nodes.length - w.Forest.Nodes.length) []).length=f.Nodes.length
  rw [eR,kF,hR.td];omega
 ·have:=hR.ln
  unfold zHO at this ⊢
  rw [lR] at this ⊢
  intro S F
  have K:=this S F
  rw [lR] at K ⊢
  intro n Q
  have E:=K n Q
  unfold inL at E ⊢
  simp only [lM,decide_eq_true_eq] at E ⊢
  refine ⟨E.1,?_⟩
  show n<((w.Line.Todos++dH (f.Nodes.length - w.Forest.Nodes.length) ([]:List Todo)).length:Int)
  rw [eR];omega
 ·show zLq f.Nodes.length w.Desk.Defs.length x s=true
  have e:(w.States++(f.Nodes.drop w.Forest.Nodes.length).map zUt)[i]? = some s:=hs
  by_cases hi:i<w.Forest.Nodes.length
  ·rw [List.getElem?_append_left (by rw [hR.st];exact hi)] at e
   obtain ⟨y,hy,q⟩:=C hx hi
   have:=hR.per i s y e hy
   unfold zLq at this ⊢
   rw [q]
   split
   ·rename_i D
    rw [iP D] at this
    simp only [lM,dD] at this ⊢
    exact ⟨this.1.imp id (G _),this.2⟩
   ·rename_i D
    rw [iN D] at this
    exact this
  ·rw [cC (by rw [hR.st];omega),lK,cD,hR.st] at e
   rw [show w.Forest.Nodes.length+(i - w.Forest.Nodes.length)=i by omega] at e
   have J:f.Nodes[i]? = some x:=hx
   rw [J] at e
   simp only [lW,lJ.injEq] at e
   rw [<- e]
   exact zWX _ _ _
 ·rcases cA.1 hl with hl | hl
  ·exact hR.todo l hl t I
  ·rw [(kN.1 hl).2] at I;cases I
 ·have:=hR.build b P
  show zOO f.Nodes w.Desk.Defs.length b=true
  unfold zOO at this ⊢
  simp only [lM,dD] at this ⊢
  refine ⟨this.1,this.2.imp id fun h=>?_⟩
  have j:=zXv h
  unfold isB at h ⊢
  obtain ⟨m,N⟩:∃m:Nat,b.Node=(m:Int):=⟨b.Node.toNat,by have:=j.1;omega⟩
  have u:m<w.Forest.Nodes.length:=by have:=j.2;omega
  rw [N,zAQ u] at h
  obtain ⟨y,hy,q⟩:=hF.2.2 m _ (lC u)
  rw [N,zNt,hy]
  simp only [beq_iff_eq] at h ⊢
  rw [q];exact h
omit hR hf hF in
theorem zaU (notes:List Note):∀u∈zU8 f (st1 w f) w.Desk w.Classes notes,InN f.Nodes u.Node/\zJd w.Desk.Defs.length u.Todo=true:=fun u i=>by
 obtain ⟨e,h,_⟩:=zaV i
 exact ⟨zXv e,h⟩
theorem zZH (notes:List Note):WR (zUZ w f notes):=(zSk hR hf hF).enl (zaU notes)
theorem zSm {q:List State} (E:zZr f.Nodes (st1 w f) q):WR (zf3 w f notes q):=by
 have j:=zZH hR hf hF notes
 refine ⟨E.1.trans (zPV hR hF),j.td,j.cl,hf,j.dk,j.ln,fun i s x hs hx=>?_,j.todo,j.task,j.build⟩
 obtain ⟨F,G,I⟩:=E.2 i s hs
 have:=j.per i F x G hx
 show zLq f.Nodes.length w.Desk.Defs.length x s=true
 rcases I with rfl | ⟨D,J,K,k4⟩
 ·exact this
 ·have C:x.Kind=1:=by
   unfold isB at D
   have u:f.Nodes[i]? = some x:=hx
   rw [zNt,u] at D
   simpa using D
  have e:zLq f.Nodes.length w.Desk.Defs.length x F=true:=this
  unfold zLq at e ⊢
  rw [iP C] at e ⊢
  rw [J,K]
  simp only [lM,dD,beq_iff_eq] at e ⊢
  refine ⟨?_,e.2⟩
  rcases k4 with h | h | h
  ·rw [h];exact e.1
  ·exact .inl h
  ·exact .inr (zLZ.2 h)
theorem zS9 (h:zfB w f notes v):WR v:=by
 obtain ⟨D,e,rfl,q,j,_⟩:=h
 refine (zSm hR hf hF q).enl fun u C=>?_
 obtain ⟨i,E⟩:=j u C
 refine ⟨zXv i,?_⟩
 unfold zJd
 simp only [dD,lM,decide_eq_true_eq]
 left;omega
end
section
variable {B:Nat} {w:World} {f:Forest} (hS:WS B w) (hR:WR w) (hf:zAG f=true) (hF:zNe w f)
include hS hR hf hF
theorem zSl:WS (B+400) (mid1 w f):=by
 have i:=(zAE hf).few
 have h:=hS.line
 have j:=h.todos
 have hl:=hF.2.1
 have hst:=hS.states
 refine ⟨⟨?_,fun t e=>?_,by have:=h.stack;show w.Line.Stack.length<=_;omega,fun t e=>by have:=h.lists t e;omega,by have:=h.back;show w.Line.Back.length<=_;omega⟩,by have:=hS.tasks;show w.Tasks.length<=_;omega,by have:=hS.builds;show w.Builds.length<=_;omega,hS.defs,hS.waits,fun x hx=>by have:=(zAE hf).kids x hx;omega,?_⟩
 ·show (w.Line.Todos++dH (f.Nodes.length - w.Forest.Nodes.length) ([]:List Todo)).length<=_
  rw [eR,kF];omega
 ·rcases cA.1 e with e | e
  ·have:=h.todo t e;omega
  ·rw [(kN.1 e).2];simp
 ·show (st1 w f).length<=_
  rw [zPV hR hF];omega
theorem zZU (h:zfB w f notes v):WS (B+notes.length+1200) v:=by
 obtain ⟨j,i,rfl,D,_,hl,_⟩:=h
 have q:=(zSl hS hR hf hF).enl (due:=zU8 f (st1 w f) w.Desk w.Classes notes)
 have E:=zXj (f:=f) (st:=st1 w f) (d:=w.Desk) (cs:=w.Classes) (notes:=notes)
 have u:=(zAE hf).few
 have C:WS (B+400+notes.length) (zf3 w f notes j):=by
  refine ⟨q.line.mono (by omega),by have:=q.tasks;show (zUZ w f notes).Tasks.length<=_;unfold zUZ;omega,by have:=hS.builds;show w.Builds.length<=_;omega,hS.defs,hS.waits,q.kids,?_⟩
  show j.length<=_
  rw [D.1,zPV hR hF];omega
 have e:=C.enl (due:=i)
 exact ⟨e.line.mono (by omega),by have:=e.tasks;omega,by have:=e.builds;omega,e.defs,e.waits,e.kids,by have:=e.states;omega⟩
end
theorem zg5 {fu B:Nat} {w:World} {f:Forest} (hfu:B+notes.length+20000<fu) (hB:B+notes.length+20000<=1000000000) (hn:notes.length<=100000000) (hS:WS B w) (hR:WR w) (hf:zAG f=true) (hF:zNe w f) :
  ∀(j i K:Nat),i+j=(f.Nodes.drop w.Forest.Nodes.length).length->j<K->∃v,zF4 fu w f notes (f.Nodes.drop w.Forest.Nodes.length) K ((i:Int),w.States++((f.Nodes.drop w.Forest.Nodes.length).take i).map zUt,(zOb w.Line i).Todos,(zOb w.Line i).Stack,(zOb w.Line i).Back,(zOb w.Line i).Busy)=some (v,0)/\zfB w f notes v:=by
 have hfew:=(zAE hf).few
 have q:=hS.line
 have hst:=hS.states
 intro j
 induction j with
 | zero =>
  intro i K hi hK
  obtain ⟨K,rfl⟩:∃Q,K=Q+1:=⟨K - 1,by omega⟩
  obtain rfl:i=(f.Nodes.drop w.Forest.Nodes.length).length:=by omega
  have e1:w.States++((f.Nodes.drop w.Forest.Nodes.length).take (f.Nodes.drop w.Forest.Nodes.length).length).map zUt=st1 w f:=by rw [iI];rfl
  have e2:zOb w.Line (f.Nodes.drop w.Forest.Nodes.length).length=ln1 w f:=by rw [iK];rfl
  have M:=zSk hR hf hF
  have D:=zSl hS hR hf hF
  have hd:=zXj (f:=f) (st:=st1 w f) (d:=w.Desk) (cs:=w.Classes) (notes:=notes)
  simp only [zF4]
  rw [zAO (by simp),e1,e2,due_ok (by omega) hf hS.defs hS.waits hR.classes (zPV hR hF) hR.dk hn (by omega),bnd_some]
  have T:=zRK (fu:=fu) (B:=B+400) (w:=mid1 w f) (due:=zU8 f (st1 w f) w.Desk w.Classes notes) (by omega) (by omega) D.line D.tasks M.ln (fun u W=>M.inL (zaU notes u W).1)
  have I:zBT fu (zU8 f (st1 w f) w.Desk w.Classes notes) ⟨⟨f,st1 w f,w.Desk,⟨(ln1 w f).Todos,(ln1 w f).Stack,(ln1 w f).Back,(ln1 w f).Busy⟩,w.Tasks,w.Builds,w.Classes⟩⟩=some ⟨zUZ w f notes⟩:=T
  rw [I,bnd_some]
  obtain ⟨E,C,g1,X,g3,g4,g5⟩:=zgr (fu:=fu) (f:=f) (st:=st1 w f) (d:=w.Desk) (cs:=w.Classes) (by omega) hf hS.defs hS.waits (zPV hR hF) hR.dk
  have S:zJD fu f (zUZ w f notes).States (zUZ w f notes).Desk (zUZ w f notes).Classes=some (E,C):=g1
  simp only
  rw [S,bnd_some]
  have N:=zSm (notes:=notes) hR hf hF X
  have P:=D.enl (due:=zU8 f (st1 w f) w.Desk w.Classes notes)
  have J:=zRK (fu:=fu) (B:=B+400+notes.length) (w:=zf3 w f notes E) (due:=C) (by omega) (by omega) (P.line.mono (by omega)) (by have:=P.tasks;show (zUZ w f notes).Tasks.length<=_;unfold zUZ;omega) N.ln (fun u W=>N.inL (zXv (g3 u W).1))
  have G:zBT fu C ⟨⟨(zUZ w f notes).Forest,E,(zUZ w f notes).Desk,(zUZ w f notes).Line,(zUZ w f notes).Tasks,(zUZ w f notes).Builds,(zUZ w f notes).Classes⟩⟩=some ⟨zU9 (zf3 w f notes E) C⟩:=J
  simp only
  rw [G,bnd_some]
  exact ⟨_,rfl,E,C,rfl,X,g3,g4,g5⟩
 | succ j ih =>
  intro i K hi hK
  obtain ⟨K,rfl⟩:∃Q,K=Q+1:=⟨K - 1,by omega⟩
  have h:i<(f.Nodes.drop w.Forest.Nodes.length).length:=by omega
  have hil:i<=400:=by rw [iK] at h;omega
  obtain ⟨v,P,h2⟩:=ih (i+1) K (by omega) (by omega)
  have F:=q.todos
  have V:LS (B+400) (zOb w.Line i):=⟨by unfold zOb;simp;omega,fun t F=>by
   rcases cA.1 F with F | F
   ·have:=q.todo t F;omega
   ·rw [(kN.1 F).2];simp,by have:=q.stack;unfold zOb;simp only;omega,fun t F=>by have:=q.lists t F;omega,by have:=q.back;unfold zOb;simp only;omega⟩
  simp only [zF4]
  rw [zAP (by simpa using h),zAQ h,bnd_some,zfN (by omega),bnd_some,zAc (by simp only [eR,lL,List.length_take,cP,eK];omega),bnd_some,zfu (B:=B+400) (by omega) V,bnd_some,zAf (by omega),bnd_some]
  refine ⟨v,?_,h2⟩
  rw [<- P,iE h,gG,<- eS]
  have e:zft (zOb w.Line i)=zOb w.Line (i+1):=by
   unfold zft zOb
   simp only [eS,List.replicate_succ']
  rw [e]
  rfl
theorem zeb {fu B:Nat} {w:World} {f:Forest} (hfu:B+notes.length+20000<fu) (hB:B+notes.length+20000<=1000000000) (G:notes.length<=100000000) (hS:WS B w) (hR:WR w) (i:f.Nodes.length<=1000) (j:∀x∈f.Nodes,x.Kids.length<=2000) :
  ∃v e,zJ5 fu w f notes=some (v,e)/\((e≠0/\v=w/\¬(zAG f=true/\zNe w f))\/(e=0/\zAG f=true/\zNe w f/\zfB w f notes v)):=by
 have F:=(zAE hR.fr).few
 have hst:=hS.states
 unfold zJ5
 rw [zR0 hS (by omega) (by omega),bnd_some,WR.iff.2 hR,iA,cnd_false,zEo (by omega) (fun x hx=>by have:=j x hx;omega),bnd_some]
 cases hf:zAG f with
 | false=>exact ⟨w,1,rfl,.inl ⟨by omega,rfl,by simp⟩⟩
 | true =>
  obtain ⟨b,E,q⟩:=zY5 (fu:=fu) (w:=w) (f:=f) (by omega) (by omega) i
  rw [iA,cnd_false,E,bnd_some]
  cases b with
  | false=>exact ⟨w,1,rfl,.inl ⟨by omega,rfl,fun h=>by have:=q.2 h.2;cases this⟩⟩
  | true =>
   have hF:=q.1 rfl
   have u:=hF.2.1
   rw [iA,cnd_false,zaH (by omega),bnd_some]
   have I:piece f.Nodes (w.Forest.Nodes.length:Int) (f.Nodes.length:Int)=some (f.Nodes.drop w.Forest.Nodes.length):=by
    unfold piece
    rw [iP ⟨by omega,by omega,by omega⟩]
    congr 1
    rw [eO,eO,kH (by simp)]
   rw [I,bnd_some]
   obtain ⟨v,C,D⟩:=zg5 hfu hB G hS hR hf hF (f.Nodes.drop w.Forest.Nodes.length).length 0 fu (by omega) (by rw [iK];omega)
   refine ⟨v,0,?_,.inr ⟨rfl,rfl,hF,D⟩⟩
   rw [<- C]
   simp [zOb]
end
section
def zPK:List Bs:=(zGq 0).getD []
theorem zZK (fu:Nat):zGq fu=some zPK:=by
 have h:∃l,zGq 0=some l:=by
  have:(zGq 0).isSome=true:=by decide +kernel
  exact kY.1 this
 obtain ⟨l,hl⟩:=h
 have e:zGq fu=zGq 0:=rfl
 unfold zPK
 rw [e,hl];rfl
def zRz (k:Int):Bs:=if k>0/\k<(zPK.length:Int) then (idx zPK k).getD [] else []
theorem zeY (fu:Nat) (k:Int):zED fu k=some (zRz k):=by
 unfold zED zRz
 rw [zZK,bnd_some,zAM,zAM]
 by_cases e:k>0
 ·rw [iP e]
  by_cases i:k<(zPK.length:Int)
  ·obtain ⟨x,hx⟩:=zAI (l:=zPK) (n:=k) (by omega)
   rw [iP i,iP ⟨e,i⟩,hx,bnd_some];rfl
  ·rw [iN i,iN fun h=>i h.2]
 ·rw [iN e,iN fun h=>e h.1]
def zL3 (k:Int):Bs×Bool :=
 if k=1\/k=2\/k=9\/k=28 then ([110,46,46,115,115],true)
 else if k=3\/k=10\/k=24 then ([110,46,46,115,46],true)
 else if k=6\/k=8\/k=26 then ([110,110,111,46,46],true)
 else if k=11 then ([110,105,46,115,46],true)
 else if k=12 then ([110,105,110,46,46],true)
 else if k=13 then ([110,110,46,46,46],true)
 else if k=16 then ([105,46,46,115,115],true)
 else if k=17 then ([46,46,46,115,46],true)
 else if k=19 then ([105,46,46,46,46],true)
 else if k=20\/k=22\/k=25 then ([46,46,46,46,46],true)
 else ([110,46,46,46,46],decide (0<k)&&decide (k<=28))
theorem zen (fu:Nat) (k:Int):zJL fu k=some (⟨zRz k,(zL3 k).1⟩,(zL3 k).2):=by
 unfold zJL zGp zII zIJ zIK zL3
 simp only [zeY,bnd_some,zAd,zAM]
 by_cases G:k=1
 ·simp [G]
 by_cases I:k=2
 ·simp [I]
 by_cases J:k=9
 ·simp [J]
 by_cases K:k=28
 ·simp [K]
 by_cases M:k=3
 ·simp [M]
 by_cases N:k=10
 ·simp [N]
 by_cases P:k=24
 ·simp [P]
 by_cases Q:k=6
 ·simp [Q]
 by_cases S:k=8
 ·simp [S]
 by_cases e:k=26
 ·simp [e]
 by_cases h:k=11
 ·simp [h]
 by_cases i:k=12
 ·simp [i]
 by_cases j:k=13
 ·simp [j]
 by_cases q:k=16
 ·simp [q]
 by_cases u:k=17
 ·simp [u]
 by_cases C:k=19
 ·simp [C]
 by_cases D:k=20
 ·simp [D]
 by_cases E:k=22
 ·simp [E]
 by_cases F:k=25
 ·simp [F]
 simp only [G,I,J,K,M,N,P,Q,S,e,h,i,j,q,u,C,D,E,F,or_self,if_false]
 by_cases g:k>0
 ·rw [iP g,decide_eq_true (show 0<k from g),iD]
 ·rw [iN g,decide_eq_false (show ¬0<k from g),jD]
theorem zH7 {c:Prop} [Decidable c] {x y:Bs×Bool} (j:∃a b c d e,x.1=[a,b,c,d,e]) (q:∃a b c d e,y.1=[a,b,c,d,e]):∃a b i d e,(if c then x else y).1=[a,b,i,d,e]:=by
 by_cases h:c
 ·rw [iP h];exact j
 ·rw [iN h];exact q
theorem zRO (k:Int):∃a b c d e,(zL3 k).1=[a,b,c,d,e]:=by
 have p:∀(a b c d e:UInt8) (t:Bool),∃h i j q u,(([a,b,c,d,e]:Bs),t).1=[h,i,j,q,u]:=fun a b c d e _=>⟨a,b,c,d,e,rfl⟩
 unfold zL3
 exact zH7 (p _ _ _ _ _ _) (zH7 (p _ _ _ _ _ _) (zH7 (p _ _ _ _ _ _) (zH7 (p _ _ _ _ _ _) (zH7 (p _ _ _ _ _ _) (zH7 (p _ _ _ _ _ _) (zH7 (p _ _ _ _ _ _) (zH7 (p _ _ _ _ _ _) (zH7 (p _ _ _ _ _ _) (zH7 (p _ _ _ _ _ _) (p _ _ _ _ _ _))))))))))
def zcc (fld:UInt8) (n:Int):Bool :=
 if fld=111 then (n == -1||(n == -2||(n == -3||ltI 400 n)))
 else if fld=110 then (n == -2||(n == -3||ltI 400 n))
 else if fld=105 then decide (-1000<=n)&&decide (n<=1000)
 else n==0
theorem zNo (fld:UInt8) (m:Nat) (e:m<256):(((fld.toNat:Int)=(m:Int))↔fld=UInt8.ofNat m):=by
 constructor
 ·intro h
  apply UInt8.toNat_inj.1
  rw [UInt8.toNat_ofNat']
  omega
 ·intro h
  rw [h,UInt8.toNat_ofNat']
  omega
theorem zWm (fu:Nat) (fld:UInt8) (n:Int):zMh fu (fld.toNat:Int) n=some (zcc fld n):=by
 have j1:zMI n ()=some (n == -2||(n == -3||ltI 400 n)):=by
  unfold zMI
  rw [show cnd (decide (n>=0)) (some (decide (n<400))) (some false)=some (ltI 400 n) from zWz 400 n]
  cases n == -2<;>cases n == -3<;>rfl
 have q:((fld.toNat:Int)=111)↔fld=111:=zNo fld 111 (by omega)
 have u:((fld.toNat:Int)=110)↔fld=110:=zNo fld 110 (by omega)
 have C:((fld.toNat:Int)=105)↔fld=105:=zNo fld 105 (by omega)
 unfold zMh zcc
 rw [j1]
 simp only [zAd,zAM]
 by_cases e:fld=111
 ·rw [iP (q.2 e),iP e]
  by_cases g:n = -1
  ·rw [iP g,g];rfl
  ·rw [iN g,show (n == -1)=false by simpa using g,e9]
 ·rw [iN fun h=>e (q.1 h),iN e]
  by_cases i:fld=110
  ·rw [iP (u.2 i),iP i]
  ·rw [iN fun h=>i (u.1 h),iN i]
   by_cases j:fld=105
   ·rw [iP (C.2 j),iP j]
    by_cases g:n >= -1000
    ·rw [iP g,decide_eq_true (show -1000<=n from g),iD]
    ·rw [iN g,decide_eq_false (show ¬-1000<=n from g),jD]
   ·rw [iN fun h=>j (C.1 h),iN j]
def zdG (fld:UInt8) (s:Bs):Bool:=if fld=115 then decide (s.length<=200) && !(decide (0<=Lib.indexByte s 10)) else s==[]
theorem zam (fu:Nat) (fld:UInt8) (s:Bs):zFj fu (fld.toNat:Int) s=some (zdG fld s):=by
 unfold zFj zdG
 rw [zPn,zAd,zAM]
 unfold zOc
 rw [bnd_some]
 by_cases h:fld=115
 ·rw [iP (by rw [h];rfl),iP h]
  by_cases g:s.length<=200
  ·rw [iP (by omega),decide_eq_true g];rfl
  ·rw [iN (by omega),decide_eq_false g];rfl
 ·rw [iN fun e=>h (UInt8.toNat_inj.1 (by have:(115:UInt8).toNat=115:=rfl;omega)),iN h]
def zNc (o:Op):Bool:=match (zL3 o.Kind).1 with
 | [a,b,c,d,e]=>(zL3 o.Kind).2&&(zcc a o.A&&(zcc b o.B&&(zcc c o.C&&(zdG d o.S&&zdG e o.T))))
 | _=>false
theorem zPj {l:Bs} {i:Nat} {b:UInt8} (h:l[i]? = some b):chr l (i:Int)=some (b.toNat:Int):=by
 unfold chr
 have hi:=(lF.1 h).1
 rw [iP (by omega)]
 simp [h]
theorem zbo {fu:Nat}:zMg fu o=some (zNc o):=by
 obtain ⟨a,b,c,d,e,hf⟩:=zRO o.Kind
 have h:chr (zL3 o.Kind).1 0=some (a.toNat:Int):=zPj (i:=0) (by rw [hf];rfl)
 have j:chr (zL3 o.Kind).1 1=some (b.toNat:Int):=zPj (i:=1) (by rw [hf];rfl)
 have q:chr (zL3 o.Kind).1 2=some (c.toNat:Int):=zPj (i:=2) (by rw [hf];rfl)
 have u:chr (zL3 o.Kind).1 3=some (d.toNat:Int):=zPj (i:=3) (by rw [hf];rfl)
 have D:chr (zL3 o.Kind).1 4=some (e.toNat:Int):=zPj (i:=4) (by rw [hf];rfl)
 have j2:∀ok,zHk fu o (⟨zRz o.Kind,(zL3 o.Kind).1⟩,(zL3 o.Kind).2) ok=some (ok&&(zdG d o.S&&zdG e o.T)):=fun ok=>by
  unfold zHk zMi
  simp only
  rw [bnd_some,u,bnd_some,zam,bnd_some,D,bnd_some,zam,bnd_some]
  cases ok
  ·rfl
  ·cases zdG d o.S<;>rfl
 have j1:∀ok,zJK fu o (⟨zRz o.Kind,(zL3 o.Kind).1⟩,(zL3 o.Kind).2) ok=some (ok&&(zcc b o.B&&(zcc c o.C&&(zdG d o.S&&zdG e o.T)))):=fun ok=>by
  unfold zJK
  simp only
  rw [j,bnd_some,zWm,bnd_some,q,bnd_some,zWm,bnd_some]
  simp only [j2]
  cases ok
  ·rfl
  ·cases zcc b o.B<;>rfl
 unfold zMg zIL zNc
 rw [zen,bnd_some,bnd_some]
 simp only
 rw [h,bnd_some,zWm,bnd_some]
 simp only [j1]
 rw [hf]
 simp only
 cases (zL3 o.Kind).2
 ·rfl
 ·cases zcc a o.A<;>rfl
def zWK (fld:UInt8) (v self many:Int):Option Int :=
 if fld=46\/fld=105\/(fld=111/\v = -1) then some v
 else if (if v = -2 then self else if v = -3 then IntKind.i64.wrap (many - 1) else v)<0\/(if v = -2 then self else if v = -3 then IntKind.i64.wrap (many - 1) else v)>=many then none
 else some (if v = -2 then self else if v = -3 then IntKind.i64.wrap (many - 1) else v)
def zcm (o:Op) (self many:Int):Op×Int :=
 if zNc o=true then (match (zL3 o.Kind).1 with
  | [a,b,c,_,_]=>(match zWK a o.A self many with
   | some x=>(match zWK b o.B self many with
    | some y=>(match zWK c o.C self many with
     | some z=>(⟨o.Kind,x,y,z,o.S,o.T,o.Must⟩,0)
     | none=>(⟨0,0,0,0,[],[],false⟩,6))
    | none=>(⟨0,0,0,0,[],[],false⟩,6))
   | none=>(⟨0,0,0,0,[],[],false⟩,6))
  | _=>(⟨0,0,0,0,[],[],false⟩,2))
 else (⟨0,0,0,0,[],[],false⟩,2)
theorem zTY {R:Type} {fld:UInt8} {v self:Int} {no:Option R} {yes:Int->Option R} {j:Unit->Option R} 
  (J:j ()=cnd (v == -2) (cnd (decide (self<0)) no (cnd (decide (self>=many)) no (yes self))) (cnd (v == -3) (cnd (decide (IntKind.i64.wrap (many - 1)<0)) no (cnd (decide (IntKind.i64.wrap (many - 1)>=many)) no (yes (IntKind.i64.wrap (many - 1))))) (cnd (decide (v<0)) no (cnd (decide (v>=many)) no (yes v))))) :
  cnd ((fld.toNat:Int)==46) (yes v) (cnd ((fld.toNat:Int)==105) (yes v) (cnd ((fld.toNat:Int)==111) (cnd (v == -1) (yes v) (j ())) (j ())))=match zWK fld v self many with | some x=>yes x | none=>no:=by
 have C:∀u:Int,cnd (decide (u<0)) no (cnd (decide (u>=many)) no (yes u))=match (if u<0\/u>=many then none else some u) with | some x=>yes x | none=>no:=fun u=>by
  rw [zAM,zAM]
  by_cases i:u<0
  ·rw [iP i,iP (.inl i)]
  ·by_cases e:u>=many
   ·rw [iN i,iP e,iP (.inr e)]
   ·rw [iN i,iN e,iN (fun h=>h.elim i e)]
 have D:j ()=match (if (if v = -2 then self else if v = -3 then IntKind.i64.wrap (many - 1) else v)<0\/(if v = -2 then self else if v = -3 then IntKind.i64.wrap (many - 1) else v)>=many then none else some (if v = -2 then self else if v = -3 then IntKind.i64.wrap (many - 1) else v)) with | some x=>yes x | none=>no:=by
  rw [J,zAd,zAd,C,C,C]
  by_cases e:v = -2
  ·simp only [iP e]
  ·simp only [iN e]
   by_cases q:v = -3
   ·simp only [iP q]
   ·simp only [iN q]
 have F:((fld.toNat:Int)=46)↔fld=46:=zNo fld 46 (by omega)
 have G:((fld.toNat:Int)=105)↔fld=105:=zNo fld 105 (by omega)
 have I:((fld.toNat:Int)=111)↔fld=111:=zNo fld 111 (by omega)
 simp only [zAd]
 unfold zWK
 by_cases i:fld=46
 ·rw [iP (F.2 i),iP (.inl i)]
 ·rw [iN fun h=>i (F.1 h)]
  by_cases e:fld=105
  ·rw [iP (G.2 e),iP (.inr (.inl e))]
  ·rw [iN fun h=>e (G.1 h)]
   by_cases q:fld=111
   ·rw [iP (I.2 q)]
    by_cases E:v = -1
    ·rw [iP E,iP (.inr (.inr ⟨q,E⟩))]
    ·rw [iN E,iN (fun h=>h.elim i fun h=>h.elim e fun h=>E h.2),D]
   ·rw [iN fun h=>q (I.1 h),iN (fun h=>h.elim i fun h=>h.elim e fun h=>q h.1),D]
theorem aim_ok {fu:Nat} {self:Int}:zQO fu o self many=some (zcm o self many):=by
 obtain ⟨a,b,c,d,e,hf⟩:=zRO o.Kind
 have h:chr (zL3 o.Kind).1 0=some (a.toNat:Int):=zPj (i:=0) (by rw [hf];rfl)
 have q:chr (zL3 o.Kind).1 1=some (b.toNat:Int):=zPj (i:=1) (by rw [hf];rfl)
 have u:chr (zL3 o.Kind).1 2=some (c.toNat:Int):=zPj (i:=2) (by rw [hf];rfl)
 have j6:∀x y,zIH o self many (⟨zRz o.Kind,(zL3 o.Kind).1⟩,(zL3 o.Kind).2) x y=some (match zWK c o.C self many with | some z=>(⟨o.Kind,x,y,z,o.S,o.T,o.Must⟩,0) | none=>(⟨0,0,0,0,[],[],false⟩,6)):=fun x y=>by
  unfold zIH
  simp only
  rw [u,bnd_some]
  refine (zTY (fld:=c) (v:=o.C) (self:=self) (many:=many) (no:=some ((⟨0,0,0,0,[],[],false⟩:Op),(6:Int))) (yes:=fun z=>some ((⟨o.Kind,x,y,z,o.S,o.T,o.Must⟩:Op),(0:Int))) (j:=zMG o self many x y) ?_).trans ?_
  ·unfold zMG zMH;rfl
  ·cases zWK c o.C self many<;>rfl
 have j3:∀x,zIG o self many (⟨zRz o.Kind,(zL3 o.Kind).1⟩,(zL3 o.Kind).2) x=some (match zWK b o.B self many with | some y=>(match zWK c o.C self many with | some z=>(⟨o.Kind,x,y,z,o.S,o.T,o.Must⟩,0) | none=>(⟨0,0,0,0,[],[],false⟩,6)) | none=>(⟨0,0,0,0,[],[],false⟩,6)):=fun x=>by
  unfold zIG
  simp only
  rw [q,bnd_some]
  refine (zTY (fld:=b) (v:=o.B) (self:=self) (many:=many) (no:=some ((⟨0,0,0,0,[],[],false⟩:Op),(6:Int))) (yes:=fun y=>zIH o self many (⟨zRz o.Kind,(zL3 o.Kind).1⟩,(zL3 o.Kind).2) x y) (j:=zME o self many (⟨zRz o.Kind,(zL3 o.Kind).1⟩,(zL3 o.Kind).2) x) ?_).trans ?_
  ·unfold zME zMF;rfl
  ·cases zWK b o.B self many with
   | none=>rfl
   | some y=>exact j6 x y
 unfold zQO zIL zcm
 rw [zbo,bnd_some]
 cases hr:zNc o with
 | false=>rfl
 | true =>
  rw [iA,cnd_false,zen,bnd_some,bnd_some,iP rfl]
  simp only
  rw [h,bnd_some]
  refine (zTY (fld:=a) (v:=o.A) (self:=self) (many:=many) (no:=some ((⟨0,0,0,0,[],[],false⟩:Op),(6:Int))) (yes:=fun x=>zIG o self many (⟨zRz o.Kind,(zL3 o.Kind).1⟩,(zL3 o.Kind).2) x) (j:=zMC o self many (⟨zRz o.Kind,(zL3 o.Kind).1⟩,(zL3 o.Kind).2)) ?_).trans ?_
  ·unfold zMC zMD;rfl
  ·simp only [hf]
   cases zWK a o.A self many with
   | none=>rfl
   | some x =>
    have:=j3 x
    rw [hf] at this
    exact this
end
section
def zKd (f:Forest) (t:zBV):Prop:=t.e≠0\/(t.e=0/\Chg f t.f t.notes)
section
variable {fu:Nat} {w:World} {k:Int} (hfu:2000<fu) (hr:zAG w.Forest=true)
include hfu hr
theorem zf0 (hx:x.Attrs.length<=1000):∃r,zDF fu w.Forest x=some r/\(r.2.2≠0\/(r.2.2=0/\Chg w.Forest r.1 [])):=by
 have hs:=zAE hr
 have i:=hs.few
 rw [za9 (by omega) (hs.fit (by omega)) hx]
 by_cases e:zAG w.Forest=true/\zbI w.Forest x=true
 ·rw [iP e]
  by_cases h:(w.Forest.Nodes.length:Int)=w.Forest.Most
  ·rw [iP h];exact ⟨_,rfl,.inl (by simp)⟩
  ·rw [iN h]
   have hs2:=zAE (zVj hr e.2 h)
   exact ⟨_,rfl,.inr ⟨rfl,.of_ext hr (zbJ _ _) (by have:=hs2.few;simp only at *;omega) fun y hy=>by have:=hs2.kids y hy;omega⟩⟩
 ·rw [iN e];exact ⟨_,rfl,.inl (by simp)⟩
theorem zc2 (hx:x.Attrs.length<=1000) (E:InN w.Forest.Nodes x.Doc) (G:x.Name.length<=1000):∃t h,zC7 fu x ⟨w,k⟩=some (t,h)/\h.World=w/\zKd w.Forest t:=by
 obtain ⟨y,hy⟩:=zAI E
 have fin:∃t h,(bnd (zEC fu x.Name) fun u=>bnd (zDF fu w.Forest (⟨x.Kind,u,x.Is,x.Data,x.Attrs,x.Parent,x.Kids,x.Host,x.Under,x.Doc⟩:Node)) fun j=>some ((⟨j.1,[],j.2.2⟩:zBV),(⟨w,j.2.1⟩:zAK)))=some (t,h)/\h.World=w/\zKd w.Forest t:=by
  rw [zRf (by omega) (by omega),bnd_some]
  obtain ⟨r,q,D⟩:=zf0 (fu:=fu) hfu hr (x:=⟨x.Kind,x.Name.map zGJ,x.Is,x.Data,x.Attrs,x.Parent,x.Kids,x.Host,x.Under,x.Doc⟩) hx
  rw [q,bnd_some]
  exact ⟨_,_,rfl,rfl,D⟩
 unfold zC7
 simp only
 rw [hy,bnd_some,zAe,zSf (by omega),bnd_some,zHu (by omega),bnd_some,zAe,zAd]
 have i:∀e:Int,e≠0->∃t h,some ((⟨(⟨[],0⟩:Forest),[],e⟩:zBV),(⟨w,k⟩:zAK))=some (t,h)/\h.World=w/\zKd w.Forest t:=fun e F=>⟨_,_,rfl,rfl,.inl F⟩
 by_cases C:y.Kind=0
 ·rw [iP C]
  by_cases q:x.Kind=1
  ·rw [iP q]
   split
   ·cases (x.Is==([]:Bs)) with
    | true=>exact fin
    | false =>
     rw [jL,cnd_true]
     cases zFI x.Is with
     | true=>exact fin
     | false=>exact i 4 (by omega)
   ·exact i 4 (by omega)
  ·rw [iN q];exact fin
 ·rw [iN C];exact i 5 (by omega)
omit hfu hr in
theorem zIb {m:Option (Forest×List Note×Int)} (h:∃r,m=some r/\(r.2.2≠0\/(r.2.2=0/\Chg w.Forest r.1 r.2.1))):∃t j,(bnd m fun e=>bnd (zAj fu e.1 e.2.1 e.2.2) fun i=>some (i,(⟨w,k⟩:zAK)))=some (t,j)/\j.World=w/\zKd w.Forest t:=by
 obtain ⟨r,rfl,h⟩:=h
 unfold zAj
 rw [bnd_some,bnd_some]
 exact ⟨_,_,rfl,rfl,h⟩
theorem zaE (X:InN w.Forest.Nodes o.A) (hS:o.S.length<=300):∃t h,zFX fu o ⟨w,k⟩=some (t,h)/\h.World=w/\zKd w.Forest t:=by
 have i:1000<fu:=by omega
 have E:∃t h,(bnd (zEA fu w.Forest o.A o.B o.C) fun e=>bnd (zAj fu e.1 e.2.1 e.2.2) fun j=>some (j,(⟨w,k⟩:zAK)))=some (t,h)/\h.World=w/\zKd w.Forest t:=by
  obtain ⟨r,q,u⟩:=zRT hr i o.A o.B o.C
  exact zIb ⟨r,q,Chg.of_hand hr u (by split<;>omega)⟩
 have I:∃t h,(bnd (zEB fu w.Forest o.A) fun e=>bnd (zAj fu e.1 e.2.1 e.2.2) fun j=>some (j,(⟨w,k⟩:zAK)))=some (t,h)/\h.World=w/\zKd w.Forest t:=by
  obtain ⟨r,q,u⟩:=zVg hr i o.A
  exact zIb ⟨r,q,Chg.of_hand hr u (by omega)⟩
 have J:∃t h,(bnd (zEV fu w.Forest o.A o.B o.C) fun e=>bnd (zAj fu e.1 e.2.1 e.2.2) fun j=>some (j,(⟨w,k⟩:zAK)))=some (t,h)/\h.World=w/\zKd w.Forest t:=by
  obtain ⟨r,q,u⟩:=zVi hr i o.A o.B o.C
  exact zIb ⟨r,q,Chg.of_hand hr u (by omega)⟩
 have set:∃t h,(bnd (zKX fu w.Forest o.A o.S o.T) fun e=>bnd (zAj fu e.1 e.2.1 e.2.2) fun j=>some (j,(⟨w,k⟩:zAK)))=some (t,h)/\h.World=w/\zKd w.Forest t:=by
  obtain ⟨r,q,u⟩:=zeB hr i (s:=o.S) (by omega) (by omega) o.A o.T
  exact zIb ⟨r,q,Chg.of_attrs hr u⟩
 have N:∃t h,(bnd (zID fu w.Forest o.A o.S) fun e=>bnd (zAj fu e.1 e.2.1 e.2.2) fun j=>some (j,(⟨w,k⟩:zAK)))=some (t,h)/\h.World=w/\zKd w.Forest t:=by
  obtain ⟨r,q,u⟩:=zZX hr i (s:=o.S) (by omega) (by omega) o.A
  exact zIb ⟨r,q,Chg.of_attrs hr u⟩
 have M:∃t h,(bnd (zHA fu w.Forest o.A o.S o.B) fun e=>bnd (zAj fu e.1 e.2.1 e.2.2) fun j=>some (j,(⟨w,k⟩:zAK)))=some (t,h)/\h.World=w/\zKd w.Forest t:=by
  obtain ⟨r,q,u⟩:=zXL hr i (s:=o.S) (by omega) (by omega) o.A o.B
  exact zIb ⟨r,q,Chg.of_attrs hr u⟩
 have K:∃t h,(bnd (zJT fu w.Forest o.A o.B) fun e=>bnd (zAj fu e.1 e.2.1 e.2.2) fun j=>some (j,(⟨w,k⟩:zAK)))=some (t,h)/\h.World=w/\zKd w.Forest t:=zIb (zb0 hr i o.A o.B)
 have D:∃t h,(bnd (zIT fu w.Forest o.A) fun e=>bnd (zAj fu e.1 e.2.1 e.2.2) fun j=>some (j,(⟨w,k⟩:zAK)))=some (t,h)/\h.World=w/\zKd w.Forest t:=zIb (zY3 hr i o.A)
 have two:∀(b:Bool) (F G:Option (zBV×zAK)),(∃t h,F=some (t,h)/\h.World=w/\zKd w.Forest t)->(∃t h,G=some (t,h)/\h.World=w/\zKd w.Forest t)->∃t h,cnd b F G=some (t,h)/\h.World=w/\zKd w.Forest t:=fun b F G Q V=>by
  cases b
  ·exact V
  ·exact Q
 have j3:∀b,∃t h,zDZ fu o ⟨w,k⟩ b=some (t,h)/\h.World=w/\zKd w.Forest t:=fun b=>by
  unfold zDZ
  exact two _ _ _ set (two _ _ _ N (two _ _ _ M (two _ _ _ K D)))
 have j2:∀b,∃t h,zDY fu o ⟨w,k⟩ b=some (t,h)/\h.World=w/\zKd w.Forest t:=fun b=>by
  unfold zDY
  exact two _ _ _ I (two _ _ _ J (two _ _ _ (j3 _) (j3 _)))
 have j1:∀b,∃t h,zDX fu o ⟨w,k⟩ b=some (t,h)/\h.World=w/\zKd w.Forest t:=fun b=>by
  unfold zDX
  exact two _ _ _ E (two _ _ _ (j2 _) (j2 _))
 have mk:∀x:Node,x.Attrs.length<=1000->x.Doc=o.A->x.Name.length<=1000->∃t h,(bnd (zC7 fu x ⟨w,k⟩) fun P=>some (P.1,P.2))=some (t,h)/\h.World=w/\zKd w.Forest t:=fun x hx hd hn=>by
  obtain ⟨t,h,q,u,W⟩:=zc2 (k:=k) hfu hr hx (by rw [hd];exact X) hn
  rw [q,bnd_some]
  exact ⟨_,_,rfl,u,W⟩
 unfold zFX
 simp only
 refine two _ _ _ (mk _ (by simp) rfl (by simp only;omega)) (two _ _ _ (mk _ (by simp) rfl (by simp)) (two _ _ _ (mk _ (by simp) rfl (by simp)) (two _ _ _ ?_ (two _ _ _ ?_ (two _ _ _ ?_ (two _ _ _ (j1 _) (j1 _)))))))
 ·obtain ⟨r,q,u⟩:=zWN hr i o.A
  rw [q,bnd_some]
  exact ⟨_,_,rfl,rfl,u⟩
 ·obtain ⟨r,q,u⟩:=zaL hr i o.A o.C (o.B != 0)
  rw [q,bnd_some]
  exact ⟨_,_,rfl,rfl,Chg.of_copy hr u⟩
 ·obtain ⟨r,q,u⟩:=zax hr i o.A
  rw [q,bnd_some]
  exact ⟨_,_,rfl,rfl,u⟩
end
def newD (f:Forest) (e:Nat) (d:Desk) (due:List Due):Prop:=due.length<=400/\∀u∈due,∃(n:Nat) (x:Node),u.Node=(n:Int)/\e<=n/\f.Nodes[n]? = some x/\zL0 x d ≠ -1/\u.Todo=zgw (zL0 x d)
def DoneC (w v:World):Prop:=∃g l h e,Chg w.Forest g l/\zAG g=true/\zNe w g/\zfB w g l h/\newD g w.Forest.Nodes.length w.Desk e/\v=zU9 h e
theorem zfB.same {w:World} {l:List Note} (h:zfB w g l v):v.Forest=g/\v.Desk=w.Desk/\v.Builds=w.Builds/\v.Classes=w.Classes:=by
 obtain ⟨i,e,rfl,_⟩:=h
 exact ⟨rfl,rfl,rfl,rfl⟩
theorem do_l {fu B:Nat} {w G:World} {r4:zBV×zAK} {e:Int} (hfu:B+100000<fu) (hB:B+100000<=1000000000) (hS:WS B G) (hR:WR G) (P:G.Forest=r4.1.f) (J:G.Desk=w.Desk) :
  ∀(j i K:Nat) (due:List Due),i+j=r4.1.f.Nodes.length->j<K->due.length<=i->newD r4.1.f w.Forest.Nodes.length w.Desk due->w.Forest.Nodes.length<=i->∃C,zDa fu r4 (G,e) K ((i:Int),due)=some (0,⟨zU9 G C,r4.2.node⟩)/\newD r4.1.f w.Forest.Nodes.length w.Desk C:=by
 have hr:zAG r4.1.f=true:=by rw [<- P];exact hR.fr
 have N:=(zAE hr).few
 intro j
 induction j with
 | zero =>
  intro i K due hi W X D hw
  obtain ⟨K,rfl⟩:∃M,K=M+1:=⟨K - 1,by omega⟩
  obtain rfl:i=r4.1.f.Nodes.length:=by omega
  simp only [zDa]
  rw [zAO (by simp)]
  unfold zBU
  simp only
  rw [zUe (B:=B) (by have:=D.1;omega) (by have:=D.1;omega) hS hR (fun u F=>?_),bnd_some,bnd_some]
  ·exact ⟨due,rfl,D⟩
  ·obtain ⟨n,x,I,_,S,T,V⟩:=D.2 u F
   refine ⟨?_,?_⟩
   ·rw [P]
    unfold InN
    have:=(lF.1 S).1
    omega
   ·rw [V,J]
    unfold zJd zgw
    simp only [dD,lM]
    right
    exact ⟨rfl,zLZ.2 (zOY.resolve_left T)⟩
 | succ j Q =>
  intro i K due hi W X D hw
  obtain ⟨K,rfl⟩:∃M,K=M+1:=⟨K - 1,by omega⟩
  have h:i<r4.1.f.Nodes.length:=by omega
  have E:=hS.defs
  have q:=hS.waits
  simp only [zDa]
  rw [zAP (by simpa using h),zZj (by omega) E q hr,zAQ h,bnd_some,zAe]
  simp only
  rw [zAf (by omega)]
  simp only [bnd_some]
  by_cases I:zL0 r4.1.f.Nodes[i] G.Desk = -1
  ·rw [iP I]
   exact Q (i+1) K due (by omega) (by omega) (by omega) D (by omega)
  ·rw [iN I,zAc (by simp only [cP,eK];omega),bnd_some]
   refine Q (i+1) K _ (by omega) (by omega) (by simp only [eR,cP,eK];omega) ⟨by simp only [eR,cP,eK];omega,fun u F=>?_⟩ (by omega)
   rcases cA.1 F with F | F
   ·exact D.2 u F
   ·rw [e8.1 F]
    rw [J] at I ⊢
    exact ⟨i,_,rfl,hw,lC h,I,rfl⟩
end
section
theorem zaO {fu:Nat} {t:Due->Option Bool} {p:Due->Bool} {l:List Due} (ht:∀x∈l,t x=some (p x)) (hf:l.length<fu) (hb:l.length<=1000000):zCh fu t l=some (l.filter fun x => !(p x)):=by
 have hi:zAu fu t l=some (zKB l p):=by
  unfold zAu
  refine zUV (L:=zAW t l) l p (fun i h k=>?_) (fun k=>?_) hf
  ·simp only [zAW]
   rw [zAP (by simpa using h),zAQ h,bnd_some,ht _ (gC h),bnd_some,zAf (by omega),bnd_some]
   cases p l[i]<;>rfl
  ·simp only [zAW]
   rw [zAO (by simp)]
 unfold zCh
 rw [hi,bnd_some,zAd]
 cases e:l.any p with
 | false =>
  rw [iP (zRn e)]
  congr 1
  exact (jM.2 fun x hx=>by
   have:=(List.any_eq_false.1 e) x hx
   simpa using this).symm
 | true =>
  have hk:∃(k0:Nat) (h:k0<l.length),zKB l p=(k0:Int)/\p l[k0]=true/\∀x∈l.take k0,p x=false:=by
   have T:l.findIdx p<l.length:=List.findIdx_lt_length.2 (List.any_eq_true.1 e)
   refine ⟨l.findIdx p,T,by unfold zKB;rw [iP e],List.findIdx_getElem,fun x hx=>?_⟩
   obtain ⟨i,hi,rfl⟩:=iW hx
   rw [List.getElem_take]
   have P:i<l.findIdx p:=by simp at hi;omega
   exact List.not_of_lt_findIdx P
  obtain ⟨k0,h,F,h2,h3⟩:=hk
  rw [F,iN (by omega),zAf (by omega),bnd_some]
  have W:∀{m:List Due},(∀x∈m,x∈l)->∀x∈m,t x=some (p x):=fun E x hx=>ht x (E x hx)
  -- all that stands in the list stood in it
  have X:∀(d i j K:Nat) (m:List Due),(∀x∈m,x∈l)->m.length=l.length->j+d=l.length->i<j->d<K->m.drop j=l.drop j->m.take i=(l.take j).filter (fun x => !(p x))->zAl t K ((i:Int),(j:Int),m)=some (l.filter fun x => !(p x)):=by
   intro d
   induction d with
   | zero =>
    intro i j K m q E hj Q hK N C
    obtain ⟨K,rfl⟩:∃J,K=J+1:=⟨K - 1,by omega⟩
    obtain rfl:j=m.length:=by omega
    simp only [zAl]
    rw [zAO (by simp),eO,eO,show zNP m.length (i:Int) (m.length:Int)=some () from iP ⟨by omega,by omega,by omega⟩,bnd_some,show zej m.length i m.length=some () from iP ⟨by omega,rfl⟩,bnd_some]
    have V:piece (zPm m i (⟨0,(⟨0,0,[],false,false,[],[],0,0,false⟩:Todo)⟩:Due)) 0 (i:Int)=some (m.take i):=by
     unfold piece zPm
     rw [iP ⟨by omega,by omega,by simp;omega⟩]
     congr 1
     simp only [Int.toNat_zero,List.drop_zero,eO,Nat.sub_zero]
     rw [iV (by simp;omega),jI,Nat.min_self]
    rw [V,bnd_some,C,E,iI]
   | succ d ih =>
    intro i j K m q E hj Q hK N C
    obtain ⟨K,rfl⟩:∃J,K=J+1:=⟨K - 1,by omega⟩
    have u:j<m.length:=by omega
    have D:j<l.length:=by omega
    have S:i<m.length:=by omega
    have M:m[j]=l[j]:=by
     have F:(m.drop j)[0]? = (l.drop j)[0]? := by rw [N]
     simp only [cD,Nat.add_zero] at F
     rw [lC u,lC D] at F
     exact lJ.inj F
    have G:m.drop (j+1)=l.drop (j+1):=by
     rw [<- mB,<- mB,N]
    simp only [zAl]
    rw [zAP (by simpa using u),zAQ u,bnd_some,W q _ (gC u),bnd_some,zAQ S,zAf (by omega),zAf (by omega),eO]
    simp only [bnd_some]
    cases I:p m[j] with
    | true =>
     refine ih i (j+1) K m q E (by omega) (by omega) (by omega) G ?_
     rw [C,iE D,jK]
     rw [M] at I
     simp [I]
    | false =>
     refine ih (i+1) (j+1) K (m.set i m[j]) (fun x hx=>?_) (by simpa using E) (by omega) (by omega) (by omega) ?_ ?_
     ·rcases dT hx with hx | rfl
      ·exact q x hx
      ·exact q _ (gC u)
     ·rw [List.drop_set,iP (by omega),G]
     ·rw [iE (by simp;omega),iE D,jK,List.getElem_set_self,kV (cB _),C,M]
      rw [M] at I
      simp [I]
  refine X (l.length - (k0+1)) k0 (k0+1) fu l (fun _ h=>h) rfl (by omega) (by omega) (by omega) rfl ?_
  rw [iE h,jK]
  simp only [k9,h2,iA,dL,↓reduceIte,List.filter_nil,gI]
  exact (jM.2 fun x hx=>by rw [h3 x hx];rfl).symm
def ze8 (w v:World):Prop:=∃due,v=zU9 w due/\due.length<=1000/\(∀u∈due,InN w.Forest.Nodes u.Node/\zJd w.Desk.Defs.length u.Todo=true/\3<=u.Todo.Kind)/\(w.Desk.Defs=[]->due=[])
def DoneW (w v:World) (s:Bs) (n:Int):Prop:=(zFO w.Desk s).2.2.2=0/\n=(zFO w.Desk s).2.1/\v=⟨w.Forest,w.States,(zFO w.Desk s).1,w.Line,if (zFO w.Desk s).2.2.1 = -1 then w.Tasks else w.Tasks++[⟨2,(zFO w.Desk s).2.1,(zFO w.Desk s).2.2.1⟩],w.Builds,w.Classes⟩
section
variable {fu B:Nat} {w:World} {k:Int} (hfu:B+300000<fu) (hB:B+300000<=900000000) (hS:WS B w) (hR:WR w)
include hfu hB hS hR
theorem zYz (hl:due.length<=1000) (e:∀u∈due,InN w.Forest.Nodes u.Node/\zJd w.Desk.Defs.length u.Todo=true):zBU fu due ⟨w,k⟩=some (0,⟨zU9 w due,k⟩):=by
 unfold zBU
 simp only
 rw [zUe (B:=B) (by omega) (by omega) hS hR e,bnd_some]
omit hfu hB hS hR in
theorem zb3 (i:∀j∈L,InN w.Forest.Nodes j):∀u∈zOv w.Desk (zSF w.Forest.Nodes L),InN w.Forest.Nodes u.Node/\zJd w.Desk.Defs.length u.Todo=true/\3<=u.Todo.Kind:=fun u D=>by
 unfold zOv zSF at D
 obtain ⟨q,F,h⟩:=kM.1 D
 obtain ⟨j,E,e⟩:=kM.1 F
 have C:InN w.Forest.Nodes q.1:=by
  split at e
  ·split at e
   ·cases e;exact i j E
   ·cases e
  ·cases e
 split at h
 ·cases h
 ·rename_i hf
  cases h
  refine ⟨C,?_,by simp [zgw]⟩
  unfold zJd zgw
  simp only [dD,lM]
  right
  exact ⟨rfl,zLZ.2 (zOY.resolve_left hf)⟩
theorem ask_ok (K:InN w.Forest.Nodes o.A) :
  (o.Kind=17/\∃e i,zEg fu o ⟨w,k⟩=some (e,true,i)/\(e≠0\/(e=0/\DoneW w i.World o.S i.node))) \/
  ((o.Kind=18\/o.Kind=23\/o.Kind=24)/\∃e i,zEg fu o ⟨w,k⟩=some (e,true,i)/\(e≠0\/(e=0/\ze8 w i.World/\i.node=k))) \/
  (o.Kind≠17/\o.Kind≠18/\o.Kind≠23/\o.Kind≠24/\zEg fu o ⟨w,k⟩=some (0,false,⟨w,k⟩)):=by
 have hr:=hR.fr
 have V:=zAE hr
 have X:=V.few
 obtain ⟨y,hy⟩:=zAI K
 have enl:∀due:List Due,due.length<=1000->(∀u∈due,InN w.Forest.Nodes u.Node/\zJd w.Desk.Defs.length u.Todo=true/\3<=u.Todo.Kind)->(w.Desk.Defs=[]->due=[])->∃e i,(bnd (zBU fu due ⟨w,k⟩) fun r7=>some (r7.1,true,r7.2))=some (e,true,i)/\(e≠0\/(e=0/\ze8 w i.World/\i.node=k)):=fun due T M W=>by
  rw [zYz hfu hB hS hR T (fun u h=>⟨(M u h).1,(M u h).2.1⟩),bnd_some]
  exact ⟨_,_,rfl,.inr ⟨rfl,⟨due,rfl,T,M,W⟩,rfl⟩⟩
 unfold zEg
 simp only
 rw [hy,bnd_some]
 simp only [zAd,zAe]
 by_cases C:o.Kind=17
 ·left
  refine ⟨C,?_⟩
  rw [iP C]
  unfold zIe
  simp only
  rw [zct (by omega) hS.defs hS.waits,bnd_some,zAe,zAe]
  by_cases G:(zFO w.Desk o.S).2.2.2=0
  ·have ht:=hS.tasks
   rw [iP G]
   by_cases N:(zFO w.Desk o.S).2.2.1 = -1
   ·rw [iP N,bnd_some]
    exact ⟨_,_,rfl,.inr ⟨rfl,G,rfl,by rw [iP N]⟩⟩
   ·rw [iN N,zaG (by omega),bnd_some,zAc (by simp only [cP,eK];omega),bnd_some,bnd_some]
    exact ⟨_,_,rfl,.inr ⟨rfl,G,rfl,by rw [iN N]⟩⟩
  ·rw [iN G,bnd_some]
   exact ⟨_,_,rfl,.inl G⟩
 ·rw [iN C]
  right
  by_cases D:o.Kind=18
  ·left
   refine ⟨.inl D,?_⟩
   rw [iP D,zeM (by omega) hS.defs hS.waits hr K,bnd_some]
   have hal:=(zAN hr).all_len K
   have T:(zSF w.Forest.Nodes (zGN w.Forest.Nodes o.A)).length<=(zGN w.Forest.Nodes o.A).length:=kL _ _
   have M:(zOv w.Desk (zSF w.Forest.Nodes (zGN w.Forest.Nodes o.A))).length<=(zSF w.Forest.Nodes (zGN w.Forest.Nodes o.A)).length:=kL _ _
   have J:=zb3 (L:=zGN w.Forest.Nodes o.A) fun j hj=>((zAN hr).all_in o.A K j hj).1
   rw [zaO (p:=fun u=>match idx w.States u.Node with | some s=>s.Phase != 1 | none=>false) (fun u h=>by
    obtain ⟨s,hs⟩:=zAI (l:=w.States) (n:=u.Node) (by have:=(J u h).1;rw [hR.st];exact this)
    unfold zCk
    simp only
    rw [hs,bnd_some]) (by omega) (by omega),bnd_some]
   refine enl _ (eM (List.length_filter_le _ _) (by omega)) (fun u h=>J u (iJ.1 h).1) fun hd=>?_
   have:zOv w.Desk (zSF w.Forest.Nodes (zGN w.Forest.Nodes o.A))=[]:=by
    rw [kT]
    intro u h
    have W:=(J u h).2.1
    unfold zOv at h
    obtain ⟨q,_,G⟩:=kM.1 h
    split at G
    ·cases G
    ·rename_i hf
     have:=zOY.resolve_left hf
     rw [hd] at this
     simp only [eK] at this
     omega
   rw [this];rfl
  ·rw [iN D]
   by_cases E:o.Kind=23
   ·left
    refine ⟨.inr (.inl E),?_⟩
    rw [iP E]
    split
    ·cases (y.Name==([102,111,114,109]:Bs)) with
     | false=>exact ⟨_,_,rfl,.inl (by omega)⟩
     | true =>
      rw [iA,cnd_false]
      obtain ⟨due,P,g2,I,Q⟩:=zd6 (fu:=fu) (f:=w.Forest) (st:=w.States) (d:=w.Desk) (cs:=w.Classes) (by omega) hr hS.defs hS.waits hR.st o.A
      rw [P,bnd_some]
      exact enl due (by omega) (fun u h=>⟨(I u h).1,by unfold zJd;simp only [dD,lM,decide_eq_true_eq];left;have:=(I u h).2;omega,by have:=(I u h).2;omega⟩) Q
    ·exact ⟨_,_,rfl,.inl (by omega)⟩
   ·rw [iN E]
    by_cases F:o.Kind=24
    ·left
     refine ⟨.inr (.inr F),?_⟩
     rw [iP F]
     split
     ·obtain ⟨due,P,g2,I,Q⟩:=zZP (fu:=fu) (f:=w.Forest) (st:=w.States) (d:=w.Desk) (cs:=w.Classes) (by omega) hr hS.defs hS.waits hR.st K o.S
      rw [P,bnd_some]
      exact enl due (by omega) (fun u h=>⟨by rw [(I u h).1];exact K,by unfold zJd;simp only [dD,lM,decide_eq_true_eq];left;have:=(I u h).2;omega,by have:=(I u h).2;omega⟩) Q
     ·exact ⟨_,_,rfl,.inl (by omega)⟩
    ·right
     rw [iN F]
     exact ⟨C,D,E,F,rfl⟩
end
end
section
def zSJ (k:Int):Bool := !(k==1||(k==16||(k==19||(k==20||(k==21||(k==22||k==25))))))&&(decide (0<k)&&decide (k<=28))
theorem zf7 {fu:Nat} {k:Int}:zEf fu k=some (zSJ k):=by
 have j1:∀t,zBi k t=some (!t&&(decide (0<k)&&decide (k<=28))):=fun t=>by
  unfold zBi
  rw [zAM]
  cases t
  ·rw [cnd_false]
   by_cases h:k>0
   ·rw [iP h,decide_eq_true (show 0<k from h)];rfl
   ·rw [iN h,decide_eq_false (show ¬0<k from h)];rfl
  ·rfl
 unfold zEf zSJ
 simp only [j1]
 cases k==1<;>cases k==16<;>cases k==19<;>cases k==20<;>cases k==21<;>cases k==22<;>cases k==25<;>rfl
theorem zdD {a b:Op}:eqOp a b=true↔a=b:=by
 unfold eqOp
 cases a;cases b
 simp
theorem aim_in (Q:1<=many) (h:(zcm o (-1) many).2=0) (j:(zcm o (-1) many).1=o) (M:zSJ o.Kind=true):0<=o.A/\o.A<many:=by
 unfold zcm at h j
 by_cases hr:zNc o=true
 ·rw [iP hr] at h j
  obtain ⟨a,b,c,d,e,hf⟩:=zRO o.Kind
  rw [hf] at h j
  simp only at h j
  have q:=hr
  unfold zNc at q
  rw [hf] at q
  simp only [lM] at q
  have K:a=110\/a=46:=by
   have E:∀k:Int,zSJ k=true->((zL3 k).1.head? = some 110\/(zL3 k).1.head? = some 46):=fun k G=>by
    unfold zL3
    unfold zSJ at G
    simp only [lM,Bool.not_eq_true',iY,beq_eq_false_iff_ne] at G
    have i:∀{c:Prop} [Decidable c] {x y:Bs×Bool},(c->x.1.head? = some 110\/x.1.head? = some 46)->(¬c->y.1.head? = some 110\/y.1.head? = some 46)->((if c then x else y).1.head? = some 110\/(if c then x else y).1.head? = some 46):=fun {c} _ {x y} I J=>by
     by_cases D:c
     ·rw [iP D];exact I D
     ·rw [iN D];exact J D
    refine i (fun _=>.inl rfl) fun _=>i (fun _=>.inl rfl) fun _=>i (fun _=>.inl rfl) fun _=>i (fun _=>.inl rfl) fun _=>i (fun _=>.inl rfl) fun _=>i (fun _=>.inl rfl) fun _=>i (fun h=>?_) fun _=>i (fun _=>.inr rfl) fun _=>i (fun h=>?_) fun _=>i (fun _=>.inr rfl) fun _=>.inl rfl
    ·omega
    ·omega
   have:=E o.Kind M
   rw [hf] at this
   simpa using this
  rcases K with rfl | rfl
  ·-- a node
   cases hx:zWK 110 o.A (-1) many with
   | none=>rw [hx] at h;simp at h
   | some x =>
    rw [hx] at h j
    simp only at h j
    have P:0<=x/\x<many:=by
     unfold zWK at hx
     rw [iN (by simp)] at hx
     generalize (if o.A = -2 then (-1:Int) else if o.A = -3 then IntKind.i64.wrap (many - 1) else o.A)=u at hx
     split at hx
     ·cases hx
     ·have:=lJ.inj hx
      omega
    have N:x=o.A:=by
     cases hy:zWK b o.B (-1) many with
     | none=>rw [hy] at h;simp at h
     | some y =>
      rw [hy] at h j
      simp only at h j
      cases hz:zWK c o.C (-1) many with
      | none=>rw [hz] at h;simp at h
      | some z =>
       rw [hz] at j
       simp only at j
       rw [<- j]
    omega
  ·have F:=q.2.1
   unfold zcc at F
   simp only [show ¬((46:UInt8)=111) by decide,show ¬((46:UInt8)=110) by decide,show ¬((46:UInt8)=105) by decide,if_false,beq_iff_eq] at F
   omega
 ·rw [iN hr] at h
  simp at h
def zZi (w:World) (o:Op) (v:World) (n:Int):Prop:=(o.Kind=17/\DoneW w v o.S n)\/(o.Kind≠17/\ze8 w v)\/(o.Kind≠17/\DoneC w v)
section
variable {fu B:Nat} {w:World} (hfu:B+3000000<fu) (hB:B+3000000<=900000000) (hS:WS B w) (hR:WR w)
include hfu hB hS hR
theorem hdo_ok (X:InN w.Forest.Nodes o.A) (hs:o.S.length<=300):∃e i,zHz fu o ⟨w,-1⟩=some (e,i)/\(e≠0\/(e=0/\zZi w o i.World i.node)):=by
 unfold zHz
 rcases ask_ok (fu:=fu) (B:=B) (k := -1) (by omega) (by omega) hS hR X with ⟨N,e,i,F,C⟩ | ⟨hk,e,i,F,C⟩ | ⟨k1,k2,k3,k4,F⟩
 ·rw [F,bnd_some]
  exact ⟨e,i,rfl,C.imp id fun h=>⟨h.1,.inl ⟨N,h.2⟩⟩⟩
 ·rw [F,bnd_some]
  exact ⟨e,i,rfl,C.imp id fun h=>⟨h.1,.inr (.inl ⟨by omega,h.2.1⟩)⟩⟩
 ·rw [F,bnd_some]
  simp only [cnd_false]
  obtain ⟨t,i,g1,g2,g3⟩:=zaE (fu:=fu) (k := -1) (by omega) hR.fr X hs
  rw [g1,bnd_some,zAe]
  rcases g3 with K | ⟨K,J⟩
  ·rw [iN K]
   exact ⟨_,_,rfl,.inl K⟩
  ·rw [iP K,g2]
   have hcl:=J.len
   have P:=J
   obtain ⟨_,_,_,_,_,_,_,_,_,_,_,_,_,Q,T⟩:=P
   obtain ⟨M,e1,t1,t2⟩:=zeb (fu:=fu) (B:=B) (w:=w) (f:=t.f) (notes:=t.notes) (by omega) (by omega) (by omega) hS hR Q T
   simp only
   rw [t1,bnd_some,zAe]
   rcases t2 with ⟨q1,D,_⟩ | ⟨rfl,D,G,I⟩
   ·rw [iN q1]
    exact ⟨_,_,rfl,.inl q1⟩
   ·rw [iP rfl,zAe,zAe]
    have W:=zS9 hR D G I
    have V:=zZU hS hR D G I
    have j:=I.same
    have hfw:=G.2.1
    have hj:∃e C,zFf fu (0,false,⟨w,-1⟩) (t,i) (M,0) ()=some (e,C)/\(e≠0\/(e=0/\zZi w o C.World C.node)):=by
     have hfew:=(zAE D).few
     obtain ⟨E,d1,d2⟩:=do_l (fu:=fu) (B:=B+t.notes.length+1200) (w:=w) (r4:=(t,i)) (e:=0) (by omega) (by omega) V W j.1 j.2.1 (t.f.Nodes.length - w.Forest.Nodes.length) w.Forest.Nodes.length fu [] (by simp only;omega) (by omega) (by simp) ⟨by simp,by simp⟩ (cB _)
     unfold zFf
     simp only
     exact ⟨_,_,d1,.inr ⟨rfl,.inr (.inr ⟨k1,t.f,t.notes,M,E,J,D,G,I,d2,rfl⟩)⟩⟩
    have q:∃e u,some ((0:Int),(⟨M,i.node⟩:zAK))=some (e,u)/\(e≠0\/(e=0/\zZi w o u.World u.node)) :=
     ⟨_,_,rfl,.inr ⟨rfl,.inr (.inr ⟨k1,t.f,t.notes,M,[],J,D,G,I,⟨by simp,by simp⟩,rfl⟩)⟩⟩
    split
    ·exact hj
    ·split
     ·exact hj
     ·exact q
theorem do_ok (hs:o.S.length<=300):∃v n e,zG5 fu w o=some (v,n,e)/\((e≠0/\v=w/\n = -1)\/(e=0/\zSJ o.Kind=true/\zNc o=true/\zZi w o v n)):=by
 have E:=zAa hR.fr
 have i:∀e:Int,e≠0->∃v n u,some (w,(-1:Int),e)=some (v,n,u)/\((u≠0/\v=w/\n = -1)\/(u=0/\zSJ o.Kind=true/\zNc o=true/\zZi w o v n)):=fun e C=>⟨_,_,_,rfl,.inl ⟨C,rfl,rfl⟩⟩
 unfold zG5 zKV
 rw [aim_ok,bnd_some]
 by_cases j:(zcm o (-1) (w.Forest.Nodes.length:Int)).2=0
 ·rw [zAe,iP j]
  cases C:eqOp (zcm o (-1) (w.Forest.Nodes.length:Int)).1 o with
  | false=>exact i 1 (by omega)
  | true =>
   rw [iA,cnd_false,zUq hS (by omega) (by omega),bnd_some,WR.iff.2 hR,iA,cnd_false,zf7,bnd_some]
   have D:zNc o=true:=by
    cases e:zNc o with
    | true=>rfl
    | false =>
     unfold zcm at j
     rw [iN (by rw [e];simp)] at j
     simp at j
   by_cases q:zSJ o.Kind=true
   ·have I:=aim_in (many:=(w.Forest.Nodes.length:Int)) (by omega) j (zdD.1 C) q
    obtain ⟨e,J,F,G⟩:=hdo_ok hfu hB hS hR (o:=o) I hs
    rw [show (!zSJ o.Kind)=false by rw [q];rfl,cnd_false,F,bnd_some,zAe]
    rcases G with h | ⟨rfl,h⟩
    ·rw [iN h];exact i e h
    ·rw [iP rfl]
     exact ⟨_,_,_,rfl,.inr ⟨rfl,q,D,h⟩⟩
   ·rw [show (!zSJ o.Kind)=true by rw [iL.2 q];rfl,cnd_true]
    exact i 7 (by omega)
 ·rw [zAe,iN j]
  have:((zcm o (-1) (w.Forest.Nodes.length:Int)).2 != 0)=true:=by simpa using j
  rw [this]
  exact i 1 (by omega)
end
end
section
section
variable {fu:Nat} (hfu:1000000000<fu)
include hfu
theorem zgf {d:Desk}:∃r,zE1 fu d=some r/\(r=true->d.Defs.length<=40/\d.Waits.length<=40):=by
 unfold zE1
 rw [zAM,zAM]
 by_cases e:d.Defs.length<=40
 ·rw [iN (by omega)]
  by_cases j:d.Waits.length<=40
  ·rw [iN (by omega)]
   have u:=zK3 (L:=zBp d) d.Waits (fun y=>decide (y.Name.length<=300)) (some true) (fun i hi k=>by
    simp only [zBp]
    rw [zAP (by simpa using hi),zAQ hi,bnd_some,zAM,zAf (by omega),bnd_some]
    by_cases h:d.Waits[i].Name.length<=300
    ·rw [iN (by omega),decide_eq_true h];rfl
    ·rw [iP (by omega),decide_eq_false h];rfl) (fun k=>by simp only [zBp];rw [zAO (by simp)]) (k:=fu) (by omega)
   have q:=zK3 (L:=zCa fu d) d.Defs (fun y=>decide (y.Name.length<=300)&&decide (y.Local.length<=300)) (zBp d fu 0) (fun i hi k=>by
    simp only [zCa]
    rw [zAP (by simpa using hi),zAQ hi,bnd_some,zAM,bnd_some,zAM,zAf (by omega),bnd_some]
    by_cases h:d.Defs[i].Name.length<=300
    ·rw [iN (by omega),decide_eq_true h]
     by_cases g:d.Defs[i].Local.length<=300
     ·rw [iN (by omega),decide_eq_true g];rfl
     ·rw [iP (by omega),decide_eq_false g];rfl
    ·rw [iP (by omega),decide_eq_false h];rfl) (fun k=>by simp only [zCa];rw [zAO (by simp)]) (k:=fu) (by omega)
   rw [q,u]
   cases d.Defs.all (fun y=>decide (y.Name.length<=300)&&decide (y.Local.length<=300)) with
   | false=>exact ⟨_,rfl,fun _=>⟨e,j⟩⟩
   | true=>cases d.Waits.all (fun y=>decide (y.Name.length<=300))<;>exact ⟨_,rfl,fun _=>⟨e,j⟩⟩
  ·rw [iP (by omega)];exact ⟨false,rfl,by simp⟩
 ·rw [iP (by omega)];exact ⟨false,rfl,by simp⟩
theorem zgg:∃r,zE2 fu l=some r/\(r=true->LS 60 l):=by
 unfold zE2
 rw [zAM,zAM,zAM]
 by_cases D:l.Todos.length<=60
 ·rw [iN (by omega)]
  by_cases F:l.Stack.length<=30
  ·rw [iN (by omega)]
   by_cases E:l.Back.length<=60
   ·rw [iN (by omega)]
    have C:=zK3 (L:=zBq l) l.Stack (fun y=>decide (y.length<=60)) (some true) (fun i hi k=>by
     simp only [zBq]
     rw [zAP (by simpa using hi),zAQ hi,bnd_some,zAM,zAf (by omega),bnd_some]
     by_cases h:l.Stack[i].length<=60
     ·rw [iN (by omega),decide_eq_true h];rfl
     ·rw [iP (by omega),decide_eq_false h];rfl) (fun k=>by simp only [zBq];rw [zAO (by simp)]) (k:=fu) (by omega)
    have u:=zK3 (L:=zCb fu l) l.Todos (fun y=>decide (y.length<=60)) (zBq l fu 0) (fun i hi k=>by
     simp only [zCb]
     rw [zAP (by simpa using hi),zAQ hi,bnd_some,zAM,zAf (by omega),bnd_some]
     by_cases h:l.Todos[i].length<=60
     ·rw [iN (by omega),decide_eq_true h];rfl
     ·rw [iP (by omega),decide_eq_false h];rfl) (fun k=>by simp only [zCb];rw [zAO (by simp)]) (k:=fu) (by omega)
    rw [u,C]
    cases j:l.Todos.all (fun y=>decide (y.length<=60)) with
    | false=>exact ⟨_,rfl,fun h=>by cases h⟩
    | true =>
     cases q:l.Stack.all (fun y=>decide (y.length<=60)) with
     | false=>exact ⟨_,rfl,fun h=>by cases h⟩
     | true =>
      rw [lR] at j q
      exact ⟨_,rfl,fun _=>⟨D,fun t e=>by simpa using j t e,by omega,fun t e=>by simpa using q t e,E⟩⟩
   ·rw [iP (by omega)];exact ⟨false,rfl,by simp⟩
  ·rw [iP (by omega)];exact ⟨false,rfl,by simp⟩
 ·rw [iP (by omega)];exact ⟨false,rfl,by simp⟩
theorem zgh {cs:List Class}:∃r,zDd fu cs=some r/\(r=true->∀c∈cs,c.Watch.length<=20):=by
 unfold zDd
 rw [zAM]
 by_cases I:cs.length<=14
 ·rw [iN (by omega)]
  have F:=zK3 (L:=zA0 fu cs) cs (fun y=>decide (y.Watch.length<=20)&&(decide (y.Hooks.length<=20)&&(decide (y.Peek.length<=80)&&(decide (y.Make.length<=80)&&y.Hooks.all fun h=>decide (h.Do.length<=80))))) (some true) (fun i hi k=>by
   simp only [zA0]
   rw [zAP (by simpa using hi),zAQ hi,bnd_some,zAM,zAM,zAM,zAM]
   by_cases e:cs[i].Watch.length<=20
   ·rw [iN (by omega),decide_eq_true e,iD]
    by_cases u:cs[i].Hooks.length<=20
    ·rw [iN (by omega),decide_eq_true u,iD]
     by_cases C:cs[i].Peek.length<=80
     ·rw [iN (by omega),decide_eq_true C,iD]
      by_cases D:cs[i].Make.length<=80
      ·rw [iN (by omega),decide_eq_true D,iD]
       exact zK3 (L:=zCc (i:Int) cs[i] (zA0 fu cs k)) cs[i].Hooks (fun h=>decide (h.Do.length<=80)) (zA0 fu cs k ((i+1:Nat):Int)) (fun j E q=>by
        simp only [zCc]
        rw [zAP (by simpa using E),zAQ E,bnd_some,zAM,zAf (by omega),bnd_some]
        by_cases h:cs[i].Hooks[j].Do.length<=80
        ·rw [iN (by omega),decide_eq_true h];rfl
        ·rw [iP (by omega),decide_eq_false h];rfl) (fun q=>by simp only [zCc];rw [zAO (by simp),zAf (by omega),bnd_some]) (by omega)
      ·rw [iP (by omega),decide_eq_false D];rfl
     ·rw [iP (by omega),decide_eq_false C];rfl
    ·rw [iP (by omega),decide_eq_false u];rfl
   ·rw [iP (by omega),decide_eq_false e];rfl) (fun k=>by simp only [zA0];rw [zAO (by simp)]) (k:=fu) (by omega)
  rw [F]
  cases a:cs.all (fun y=>decide (y.Watch.length<=20)&&(decide (y.Hooks.length<=20)&&(decide (y.Peek.length<=80)&&(decide (y.Make.length<=80)&&y.Hooks.all fun h=>decide (h.Do.length<=80))))) with
  | false=>exact ⟨_,rfl,fun h=>by cases h⟩
  | true =>
   rw [lR] at a
   exact ⟨_,rfl,fun _ c G=>by
    have:=a c G
    simp only [lM,decide_eq_true_eq] at this
    exact this.1⟩
 ·rw [iP (by omega)];exact ⟨false,rfl,by simp⟩
theorem zf5 {cs:List Class} (D:cs.length<=1000) (C:∀c∈cs,c.Watch.length<=20):∃r,zE4 fu cs=some r:=by
 unfold zE4
 have u:=zK3 (L:=zA1 fu cs) cs (fun y=>y.Watch.all fun s=>decide (s.length<=300)) (some true) (fun i hi k=>by
  have hw:=C _ (gC hi)
  simp only [zA1]
  rw [zAP (by simpa using hi)]
  exact zK3 (L:=zCd cs (i:Int) (zA1 fu cs k)) cs[i].Watch (fun s=>decide (s.length<=300)) (zA1 fu cs k ((i+1:Nat):Int)) (fun j e q=>by
   simp only [zCd]
   rw [zAQ hi,bnd_some,zAP (by simpa using e),bnd_some,zAQ e,bnd_some,zAM,zAf (by omega),bnd_some]
   by_cases h:cs[i].Watch[j].length<=300
   ·rw [iN (by omega),decide_eq_true h];rfl
   ·rw [iP (by omega),decide_eq_false h];rfl) (fun q=>by simp only [zCd];rw [zAQ hi,bnd_some,zAO (by simp),zAf (by omega),bnd_some]) (by omega)) (fun k=>by simp only [zA1];rw [zAO (by simp)]) (k:=fu) (by omega)
 rw [u]
 cases cs.all (fun y=>y.Watch.all fun s=>decide (s.length<=300))<;>exact ⟨_,rfl⟩
theorem zgi {w:World}:∃r,zE3 fu w=some r/\(r=true->WS 60 w/\w.Desk.Waits.length<=40):=by
 unfold zE3
 obtain ⟨Q,D,E⟩:=zUO (fu:=fu) (f:=w.Forest) (by omega)
 obtain ⟨S,F,j⟩:=zgf hfu (d:=w.Desk)
 obtain ⟨u,G,I⟩:=zgg hfu (l:=w.Line)
 obtain ⟨C,i,J⟩:=zgh hfu (cs:=w.Classes)
 have e:∃r,some false=some r/\(r=true->WS 60 w/\w.Desk.Waits.length<=40):=⟨false,rfl,by simp⟩
 rw [D,bnd_some,F,bnd_some,G,bnd_some,i,bnd_some,zAM,zAM,zAM]
 cases Q with
 | false=>exact e
 | true =>
  rw [cnd_true]
  by_cases M:w.States.length<=60
  ·rw [iP (by omega)]
   cases S with
   | false=>exact e
   | true =>
    rw [cnd_true]
    cases u with
    | false=>exact e
    | true =>
     rw [cnd_true]
     by_cases N:w.Tasks.length<=60
     ·rw [iP (by omega)]
      by_cases P:w.Builds.length<=60
      ·rw [iP (by omega)]
       cases C with
       | false=>exact e
       | true =>
        have q:w.Classes.length<=1000:=by
         unfold zDd at i
         rw [zAM] at i
         by_cases h:w.Classes.length<=14
         ·omega
         ·rw [iP (by omega)] at i;cases i
        obtain ⟨r,K⟩:=zf5 hfu q (J rfl)
        rw [cnd_true,K,bnd_some]
        have hs:=(E rfl).1
        exact ⟨r,rfl,fun _=>⟨⟨I rfl,N,P,by have:=(j rfl).1;omega,by have:=(j rfl).2;omega,fun x hx=>by have:=hs.kids x hx;omega,M⟩,(j rfl).2⟩⟩
      ·rw [iN (by omega)];exact e
     ·rw [iN (by omega)];exact e
  ·rw [iN (by omega)];exact e
end
end
section
theorem zb7 {u : Type} {L:Nat->Int->Option Bool} (l:List u) (fin:Option Bool) (e:∀(i:Nat) (_:i<l.length) (k:Nat),L (k+1) (i:Int)=L k ((i+1:Nat):Int)) (j:∀k,L (k+1) (l.length:Int)=fin) {k:Nat} (q:l.length<k):L k 0=fin:=by
 rw [zK3 (L:=L) l (fun _=>true) fin (fun i h k=>e i h k) j q]
 have:(l.all fun _=>true)=true:=by simp
 rw [this];rfl
theorem zY4 (x:Def):zfp x x=true:=by unfold zfp;simp
theorem zWj (x:Wait):zaa x x=true:=by unfold zaa;simp
section
variable {fu:Nat} (hfu:1000000000<fu)
include hfu
theorem zY2 {d:Desk} (h:d.Defs.length<=900) (j:d.Waits.length<=900):zBt fu d d=some true:=by
 have e:=zb7 (L:=zCB d d) d.Waits (some true) (fun i hi k=>by
  simp only [zCB]
  rw [zAP (by simpa using hi),zAQ hi,bnd_some,bnd_some,zWj,iA,cnd_false,zAf (by omega),bnd_some]) (fun k=>by simp only [zCB];rw [zAO (by simp)]) (k:=fu) (by omega)
 unfold zBt
 rw [zAe,iP rfl,zAe,iP rfl,zAe,iP rfl]
 simp only [beq_self_eq_true,iA,cnd_false]
 rw [zb7 (L:=zCn fu d d) d.Defs (zCB d d fu 0) (fun i hi k=>by
  simp only [zCn]
  rw [zAP (by simpa using hi),zAQ hi,bnd_some,bnd_some,zY4,iA,cnd_false,zAf (by omega),bnd_some]) (fun k=>by simp only [zCn];rw [zAO (by simp)]) (k:=fu) (by omega),e]
end
end
section
theorem zfK:zGe 10000000000=some true:=by decide +kernel
end
section
def zLg (w:World):Bool := !w.Line.Busy&&(decide (w.Line.Stack.length=0)&&(decide (w.Line.Back.length=0)&&(w.Line.Todos.all (fun t=>decide (t.length=0))&&(decide (w.Tasks.length=0)&&(decide (w.Builds.length=0) && !w.Desk.Busy)))))
theorem zRt {fu:Nat} {w:World} (hfu:1000000000<fu) (h:w.Line.Todos.length<=900000000):zFU fu w=some (zLg w):=by
 have z:∀n:Nat,(((n:Nat):Int)==0)=decide (n=0):=fun n=>by
  rw [eW,beq_iff_eq,decide_eq_true_eq];omega
 unfold zFU zNi zLg
 rw [zOS (p:=fun t => !(decide (t.length=0))) (fun t _=>by
  unfold zFy
  congr 1
  by_cases g:t.length=0
  ·rw [decide_eq_true g,decide_eq_false (by omega)];rfl
  ·rw [decide_eq_false g,decide_eq_true (by omega)];rfl) (by omega) (by omega),bnd_some,zFJ,kI,z,z,z,z]
 cases w.Line.Busy
 ·cases decide (w.Line.Stack.length=0)
  ·rfl
  ·cases decide (w.Line.Back.length=0)
   ·rfl
   ·cases w.Line.Todos.all (fun t=>decide (t.length=0))
    ·rfl
    ·cases decide (w.Tasks.length=0)
     ·rfl
     ·cases decide (w.Builds.length=0)<;>rfl
 ·rfl
theorem zVB {d:Desk} (h:d.Defs=[]):zL0 x d = -1:=by
 refine zOY.resolve_right fun e=>?_
 rw [h] at e
 simp only [eK] at e
 omega
theorem zc9 {f:Forest} {st:List State} {d:Desk} {cs:List Class} (h:d.Defs=[]):zU8 f st d cs notes=[]:=by
 rw [kT]
 intro u j
 obtain ⟨_,_,x,_,_,e⟩:=zaV j
 unfold zfH at e
 split at e
 ·split at e
  ·rw [iN fun i=>i.2 (zVB h)] at e;cases e
  ·split at e
   ·rw [h,zLU] at e;cases e
   ·cases e
 ·cases e
theorem zWb {w:World} (hR:WR w) (C:w.Desk.Defs=[]) (hr:zLg w=true) (h:DoneC w v):zLg v=true/\v.Desk=w.Desk/\WR v/\v.Line.Todos.length=v.Forest.Nodes.length:=by
 obtain ⟨g,l,S,i,Q,K,hF,F,J,rfl⟩:=h
 have q:=zS9 hR K hF F
 have j:i=[]:=by
  rw [kT]
  intro u N
  obtain ⟨n,x,_,_,_,G,_⟩:=J.2 u N
  exact G (zVB C)
 subst j
 obtain ⟨P,E,rfl,_,_,_,I⟩:=F
 obtain ⟨rfl,rfl⟩:=I C
 refine ⟨?_,rfl,q,q.td⟩
 have e:(zU9 (zU9 (zf3 w g l (st1 w g)) []) [])=mid1 w g:=by
  have:zU8 g (st1 w g) w.Desk w.Classes l=[]:=zc9 C
  unfold zU9 zf3 zUZ
  rw [this]
  rfl
 rw [e]
 unfold zLg at hr ⊢
 simp only [lM,decide_eq_true_eq,lR] at hr ⊢
 refine ⟨hr.1,hr.2.1,hr.2.2.1,fun t M=>?_,hr.2.2.2.2⟩
 have D:t∈w.Line.Todos++dH (g.Nodes.length - w.Forest.Nodes.length) []:=M
 rcases cA.1 D with h | h
 ·exact hr.2.2.2.1 t h
 ·rw [(kN.1 h).2];rfl
theorem WS.todos {B:Nat} {w:World} (hR:WR w) (_h:B=B):w.Line.Todos.length<=400:=by
 rw [hR.td];exact (zAE hR.fr).few
theorem deedCalm (w:World) (o:Op):∃fu,zBx fu w o=some true:=by
 refine ⟨10000000000,?_⟩
 unfold zBx
 rw [zfK,bnd_some,iA,cnd_false]
 generalize P:(10000000000:Nat)=fu
 have hfu:1000000000<fu:=by omega
 obtain ⟨r,h1,h2⟩:=zgi hfu (w:=w)
 rw [h1,bnd_some]
 cases r with
 | false=>rfl
 | true =>
  have hS:=(h2 rfl).1
  rw [iA,cnd_false,zAM]
  by_cases hs:o.S.length<=300
  ·rw [iN (by omega),zAM]
   by_cases ht:o.T.length<=300
   ·rw [iN (by omega),zUq hS (by omega) (by omega),bnd_some]
    cases hw:zTF w with
    | false=>rfl
    | true =>
     have hR:=WR.iff.1 hw
     have u:=WS.todos (B:=60) hR rfl
     rw [iA,cnd_false,zAM]
     by_cases hd:w.Desk.Defs.length>0
     ·rw [iP (by omega)]
     ·have q:w.Desk.Defs=[]:=List.eq_nil_of_length_eq_zero (by omega)
      rw [iN (by omega),zRt hfu (by omega),bnd_some]
      cases j:zLg w with
      | false=>rfl
      | true =>
       rw [iA,cnd_false]
       obtain ⟨v,n,e,g1,g2⟩:=do_ok (fu:=fu) (B:=60) (w:=w) (o:=o) (by omega) (by omega) hS hR hs
       rw [g1,bnd_some]
       simp only
       have same:zBt fu w.Desk w.Desk=some true:=zY2 hfu hS.defs hS.waits
       -- a world that is as it was,but for states and nodes
       have fin:∀(i:World) (b:Bool),zLg i=true->i.Desk=w.Desk->i.Line.Todos.length=i.Forest.Nodes.length->i.Line.Todos.length<=400->(e=0->o.Kind≠17)->(bnd (zFU fu i) fun r8=>cnd (!r8) (some false) (cnd ((i.Line.Todos.length:Int) != (i.Forest.Nodes.length:Int)) (some false) (cnd (e==0) (cnd (o.Kind==17) (bnd (rng .i64 ((w.Desk.Waits.length:Int)+1)) fun i9=>some ((i.Desk.Waits.length:Int)==i9)) (bnd (zBt fu i.Desk w.Desk) fun M=>some M)) (bnd (zBt fu i.Desk w.Desk) fun N=>some N))))=some true:=fun i _ k1 k2 k3 k4 k5=>by
        rw [zRt hfu (by omega),bnd_some,k1,iA,cnd_false,zAe,iP (by omega),k2,same,bnd_some,zAd,zAd]
        by_cases I:e=0
        ·rw [iP I,iN (k5 I)]
        ·rw [iN I]
       rcases g2 with ⟨K,rfl,_⟩ | ⟨K,_,_,q2⟩
       ·exact fin v true j rfl hR.td u fun h=>absurd h K
       ·rcases q2 with ⟨D,E⟩ | ⟨D,E⟩ | ⟨D,E⟩
        ·obtain ⟨G,rfl,rfl⟩:=E
         obtain ⟨_,b2,_,b4,X,_,_,_,b9⟩:=zWR G
         have hws:=hS.waits
         have C:(zFO w.Desk o.S).2.2.1 = -1/\(zFO w.Desk o.S).1.Waits=w.Desk.Waits++[⟨o.S,w.Desk.Next⟩]:=b9.resolve_right fun Q=>by
          have:=Q.1;have:=Q.2.1;rw [q] at this;simp only [eK] at this;omega
         rw [iP C.1]
         have J:zLg ⟨w.Forest,w.States,(zFO w.Desk o.S).1,w.Line,w.Tasks,w.Builds,w.Classes⟩=true:=by
          unfold zLg at j ⊢
          simp only [X]
          exact j
         rw [zRt hfu (by simp only;omega),bnd_some,J,iA,cnd_false,zAe,iP (by simp only;rw [hR.td]),zAd,iP K,zAd,iP D,zAf (by omega),bnd_some]
         simp only [C.2,eR,cP,eK]
         simp
        ·obtain ⟨due,rfl,_,_,F⟩:=E
         have:=F q
         subst this
         exact fin (zU9 w []) true j rfl hR.td u fun _=>D
        ·obtain ⟨G,V,W,F⟩:=zWb hR q j E
         exact fin v true G V F (by rw [F];exact (zAE W.fr).few) fun _=>D
   ·rw [iP (by omega)]
  ·rw [iP (by omega)]
end
end Go.Proofs.YtmfbghpealgaiaaGreatDoor
